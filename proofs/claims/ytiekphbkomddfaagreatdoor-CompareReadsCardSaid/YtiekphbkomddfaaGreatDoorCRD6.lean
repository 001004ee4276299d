/- Comparing: the plain law of the times at which two lists of spans differ. -/
import Derived.Test.YtiekphbkomddfaaGreatDoorCRD5
import Derived.Lib.MakeNoZero
namespace Go.Proofs.YtiekphbkomddfaaGreatDoor.S1
open Go Go.Ab Go.Proofs
--BEGIN
theorem adv_nil (t:Int) (p:Nat):adv [] t p=p:=by unfold adv; simp
theorem adv_zero (x:Sp) (r:List Sp) (t:Int):adv (x::r) t 0=if x.to < t then adv r t 0+1 else 0:=by
 unfold adv
 simp only [List.drop_zero,Nat.zero_add,List.takeWhile_cons]
 by_cases h:x.to < t
 ·rw [decide_eq_true h,if_pos h]; simp
 ·rw [decide_eq_false h,if_neg h]; rfl
theorem adv_succ (x:Sp) (r:List Sp) (t:Int) (p:Nat):adv (x::r) t (p+1)=adv r t p+1:=by
 unfold adv
 simp only [List.drop_succ_cons]
 omega
theorem adv_adv {t t' : Int} (h : t ≤ t') : ∀ l : List Sp, adv l t' (adv l t 0) = adv l t' 0
  | [] => by rw [adv_nil, adv_nil, adv_nil]
  | x :: r => by
    rw [adv_zero x r t]
    by_cases hx : x.to < t
    · rw [if_pos hx, adv_succ, adv_zero, if_pos (by omega), adv_adv h r]
    · rw [if_neg hx]
theorem span_at : ∀ {l : List Sp} {f : Int} {p : Option Str}, Vl f p l → ∀ t, l ≠ [] → t ≤ (lastSp l).to →
    t ≤ (l.getD (adv l t 0) default).to ∧ (l.getD (adv l t 0) default).to ≤ (lastSp l).to ∧ ∀ u, t ≤ u → u ≤ (l.getD (adv l t 0) default).to → atL l u = (l.getD (adv l t 0) default).val
  | [], _, _, _, _, h, _ => absurd rfl h
  | x :: r, f, p, ⟨h1, h2, h3, h4, h5, h6⟩, t, _, ht => by
    rw [adv_zero]
    by_cases hx : x.to < t
    · rw [if_pos hx]
      have hr : r ≠ [] := by
        intro e; subst e
        have : t ≤ x.to := ht
        omega
      rw [lastSp_cons' x hr] at ht ⊢
      obtain ⟨g1, g2, g3⟩ := span_at h6 t hr ht
      have e : ∀ n, (x :: r).getD (n + 1) default = r.getD n default := fun n => by simp [List.getD]
      rw [e]
      refine ⟨g1, g2, fun u hu hu2 => ?_⟩
      simp only [atL]
      rw [if_neg (by omega)]
      exact g3 u hu hu2
    · rw [if_neg hx]
      have e : (x :: r).getD 0 default = x := rfl
      rw [e]
      refine ⟨by omega, ?_, fun u hu hu2 => ?_⟩
      · cases r with
        | nil => exact Int.le_refl _
        | cons y s => rw [lastSp_cons]; have := Vl.last h6 (by simp); omega
      · simp only [atL]
        rw [if_pos hu2]
def RwOk (A B:Int→Str) (T:Int):Int→List Rw→Prop
 | f,[]=>f=T+1
 | f,r::rs=>r.frm=f∧f≤r.to∧r.to≤T∧(∀ u,f≤u→u≤r.to→r.vals=[A u,B u])∧RwOk A B T (r.to+1) rs
theorem zip_rw {a b : List Sp} {T fa fb : Int} (ha : Vl fa none a) (hb : Vl fb none b) (na : a ≠ []) (nb : b ≠ []) (ta : (lastSp a).to = T) (tb : (lastSp b).to = T) :
    ∀ (n : Nat) (frm : Int) (p q : Nat), 0 ≤ frm → frm ≤ T + 1 → (T + 1 - frm).toNat ≤ n → adv a frm p = adv a frm 0 → adv b frm q = adv b frm 0 → RwOk (atL a) (atL b) T frm (zipW a b T n frm p q)
  | 0, frm, p, q, h0, h1, hn, _, _ => by
    show frm = T + 1
    omega
  | n + 1, frm, p, q, h0, h1, hn, hp, hq => by
    simp only [zipW]
    by_cases hle : frm ≤ T
    · rw [if_pos hle, hp, hq]
      obtain ⟨a1, a2, a3⟩ := span_at ha frm na (by rw [ta]; exact hle)
      obtain ⟨b1, b2, b3⟩ := span_at hb frm nb (by rw [tb]; exact hle)
      rw [ta] at a2
      rw [tb] at b2
      have hT := (ha.last na).2
      rw [ta] at hT
      have hpa := fun (t' : Int) (h : frm ≤ t') => adv_adv h a
      have hpb := fun (t' : Int) (h : frm ≤ t') => adv_adv h b
      generalize adv a frm 0 = p' at *
      generalize adv b frm 0 = q' at *
      generalize hm : mnI (b.getD q' default).to (mnI (a.getD p' default).to T) = m
      have hm1 : frm ≤ m ∧ m ≤ T ∧ m ≤ (a.getD p' default).to ∧ m ≤ (b.getD q' default).to := by
        rw [← hm]
        unfold mnI
        (repeat' split) <;> omega
      obtain ⟨m1, m2, m3, m4⟩ := hm1
      rw [add64 (a := m) (b := 1) (by omega) (by omega)]
      exact ⟨rfl, m1, m2, fun u h1 h2 => by rw [a3 u h1 (by have h2 : u ≤ m := h2; omega), b3 u h1 (by have h2 : u ≤ m := h2; omega)], zip_rw ha hb na nb ta tb n (m + 1) p' q' (by omega) (by omega) (by omega) (hpa _ (by omega)) (hpb _ (by omega))⟩
    · rw [if_neg hle]
      show frm = T + 1
      omega
theorem zipR_rw {a b:List Sp} {f T:Int} (ha:Vl f none a) (hb:Vl f none b) (na:a≠[]) (nb:b≠[]) (ta:(lastSp a).to=T) (tb:(lastSp b).to=T) (h0:0≤f) (hle:f≤T) :
  ZipOk a b∧RwOk (atL a) (atL b) T f (zipR a b):=by
 refine ⟨⟨ha.valid na,hb.valid nb,by rw [ha.head na,hb.head nb],by rw [ta,tb]⟩,?_⟩
 unfold zipR
 rw [ta,ha.head na]
 exact zip_rw ha hb na nb ta tb _ f 0 0 h0 (by omega) (Nat.le_refl _) rfl rfl
theorem RwOk.any {A B : Int → Str} {T : Int} (g : Rw → List Iv) (v : Int → Bool) : ∀ {rs : List Rw} {f : Int}, RwOk A B T f rs → f ≤ T + 1 → (∀ r ∈ rs, f ≤ r.frm → r.frm ≤ r.to → r.to ≤ T → (∀ u, r.frm ≤ u → u ≤ r.to → r.vals = [A u, B u]) → ∀ s, (g r).any (inP s) = (decide (r.frm ≤ s ∧ s ≤ r.to) && v s)) →
    ∀ s, (rs.flatMap g).any (inP s) = (decide (f ≤ s ∧ s ≤ T) && v s)
  | [], f, h, _, _, s => by
    have h : f = T + 1 := h
    rw [decide_eq_false (by omega)]; rfl
  | r :: rs, f, ⟨h1, h2, h3, h4, h5⟩, hf, hg, s => by
    rw [List.flatMap_cons, List.any_append, hg r (List.mem_cons_self ..) (by omega) (by omega) h3 (by rw [h1]; exact h4) s,
      RwOk.any g v h5 (by omega) (fun r' hr' a1 a2 a3 a4 => hg r' (List.mem_cons_of_mem _ hr') (by omega) a2 a3 a4) s, h1]
    by_cases c1 : f ≤ s ∧ s ≤ r.to
    · rw [decide_eq_true c1, decide_eq_false (by omega), decide_eq_true (show f ≤ s ∧ s ≤ T by omega)]
      simp
    · rw [decide_eq_false c1, Bool.false_and, Bool.false_or]
      congr 1
      rw [decide_eq_decide]; omega
theorem RwOk.len {A B : Int → Str} {T : Int} : ∀ {rs : List Rw} {f : Int}, RwOk A B T f rs → f ≤ T + 1 → (rs.length : Int) ≤ T + 1 - f
  | [], f, _, _ => by simp; omega
  | r :: rs, f, ⟨_, h2, h3, _, h5⟩, _ => by
    have := RwOk.len h5 (by omega)
    simp only [List.length_cons]; omega
theorem nrS_any (k : Int) (t : Tol) (v : Str) : ∀ {l : List Sp} {f : Int} {p : Option Str}, Vl f p l → l ≠ [] → ∀ u, (nrS k t v l).any (inP u) = (decide (f ≤ u ∧ u ≤ (lastSp l).to) && saF k t v (atL l u))
  | [], _, _, _, h, _ => absurd rfl h
  | x :: r, f, p, ⟨h1, h2, h3, h4, h5, h6⟩, _, u => by
    have e : (nrS k t v (x :: r)).any (inP u) = ((decide (f ≤ u ∧ u ≤ x.to) && saF k t v x.val) || (nrS k t v r).any (inP u)) := by
      unfold nrS
      rw [List.filter_cons]
      by_cases hs : saF k t v x.val = true
      · rw [if_pos hs, List.map_cons, List.any_cons, hs, Bool.and_true]
        congr 1
        by_cases hc : f ≤ u ∧ u ≤ x.to
        · rw [decide_eq_true hc]; exact inP_iff.2 ⟨by show x.frm ≤ u; omega, hc.2⟩
        · rw [decide_eq_false hc]; exact inP_ff.2 (by show ¬ (x.frm ≤ u ∧ u ≤ x.to); omega)
      · rw [if_neg hs]
        simp only [Bool.not_eq_true] at hs
        rw [hs, Bool.and_false, Bool.false_or]
    rw [e]
    simp only [atL]
    cases hr : r with
    | nil =>
      show (_ || false) = (decide (f ≤ u ∧ u ≤ x.to) && _)
      rw [Bool.or_false]
      by_cases hc : f ≤ u ∧ u ≤ x.to
      · rw [if_pos hc.2]
      · rw [decide_eq_false hc, Bool.false_and, Bool.false_and]
    | cons y q =>
      rw [← hr]
      have hne : r ≠ [] := by rw [hr]; simp
      rw [nrS_any k t v h6 hne u, lastSp_cons' x hne]
      have hl := Vl.last h6 hne
      by_cases hc : f ≤ u ∧ u ≤ x.to
      · rw [decide_eq_true hc, if_pos hc.2, decide_eq_false (show ¬ (x.to + 1 ≤ u ∧ u ≤ (lastSp r).to) by omega), decide_eq_true (show f ≤ u ∧ u ≤ (lastSp r).to by omega)]
        simp
      · rw [decide_eq_false hc, Bool.false_and, Bool.false_or]
        by_cases hu : u ≤ x.to
        · rw [decide_eq_false (show ¬ (x.to + 1 ≤ u ∧ u ≤ (lastSp r).to) by omega), decide_eq_false (show ¬ (f ≤ u ∧ u ≤ (lastSp r).to) by omega), Bool.false_and, Bool.false_and]
        · rw [if_neg hu]
          congr 1
          rw [decide_eq_decide]; omega
theorem grw_spec (l:List Iv) {a b:Int} (f t:Int) (ha : -1099511627776≤a) (hab:a≤b) (hb:b≤1099511627776) :
  Nor 0 (grwI l a b f t)∧∀ s,(grwI l a b f t).any (inP s)=true↔(loT f≤s∧s≤hiT t)∧∃ u,inI l u=true∧s+a≤u∧u≤s+b:=by
 have hd:dlyB a b=true:=by
  unfold dlyB
  rw [decide_eq_true (show a≥ -1099511627776 by omega),decide_eq_true hb,decide_eq_true hab]; rfl
 obtain ⟨n1,n2⟩:=norI_spec l
 unfold grwI mvI
 rw [hd,show (!true)=false from rfl,cond_false]
 obtain ⟨c1,c2⟩:=iclip_spec ((norI l).map (mvF (subI .i64 0 b) (subI .i64 0 a))) f t
 refine ⟨c1,fun s=> ?_⟩
 rw [c2,Bool.and_eq_true,decide_eq_true_eq,and_comm]
 refine and_congr_right fun hs=> ?_
 have hbd:=n1.bds
 rw [List.any_map,List.any_eq_true]
 have hmv:∀ x∈norI l,(inP s∘mvF (subI .i64 0 b) (subI .i64 0 a)) x=true↔x.frm - b≤s∧s≤x.to - a:=fun x hx=>by
  obtain ⟨b1,b2,b3⟩:=hbd x hx
  show inP s ⟨addI .i64 x.frm (subI .i64 0 b),addI .i64 x.to (subI .i64 0 a)⟩=true↔_
  rw [sub64 (a:=0) (b:=b) (by omega) (by omega),sub64 (a:=0) (b:=a) (by omega) (by omega),add64 (by omega) (by omega),add64 (by omega) (by omega),inP_iff]
  show x.frm+(0 - b)≤s∧s≤x.to+(0 - a)↔_
  omega
 constructor
 ·rintro ⟨x,hx,h⟩
  have h:=(hmv x hx).1 h
  obtain ⟨b1,b2,b3⟩:=hbd x hx
  refine ⟨max x.frm (s+a),?_,by omega,by omega⟩
  rw [← n2,List.any_eq_true]
  exact ⟨x,hx,inP_iff.2 ⟨by omega,by omega⟩⟩
 ·rintro ⟨u,hu,h1,h2⟩
  rw [← n2,List.any_eq_true] at hu
  obtain ⟨x,hx,h⟩:=hu
  have h:=inP_iff.1 h
  exact ⟨x,hx,(hmv x hx).2 (by omega)⟩
def nearP (k:Int) (t:Tol) (B:Int→Str) (v:Str) (e s:Int):Prop:=∃ u,0≤u∧u≤e∧s - t.time≤u∧u≤s+t.time∧saF k t v (B u)=true
theorem near_any (k:Int) (t:Tol) {l:List Sp} {v:Str} {e:Int} (hl:Vl 0 none l) (hn:l≠[]) (he:(lastSp l).to=e) (h0:0≤t.time) (h1:t.time≤1099511627776) (hE:0≤e∧e≤1099511627776) (s:Int) :
  (nearI k t l v e).any (inP s)=true↔(0≤s∧s≤e)∧nearP k t (atL l) v e s:=by
 unfold nearI nearP
 rw [sub64 (a:=0) (by omega) (by omega),(grw_spec _ 0 e (by omega) (by omega) h1).2,loT0,show hiT e=e by unfold hiT; split <;> omega]
 refine and_congr_right fun hs=> ?_
 have hi:∀ u,inI (nrS k t v l) u=true↔0≤u∧u≤e∧saF k t v (atL l u)=true:=fun u=>by
  by_cases hu:0≤u∧u≤1099511627776
  ·rw [any_inI hu,nrS_any k t v hl hn u,Bool.and_eq_true,decide_eq_true_eq,he,and_assoc]
  ·rw [inI_out hu]
   constructor
   ·intro h; cases h
   ·intro h; omega
 constructor
 ·rintro ⟨u,h2,h3,h4⟩
  obtain ⟨h5,h6,h7⟩:=(hi u).1 h2
  exact ⟨u,h5,h6,by omega,h4,h7⟩
 ·rintro ⟨u,h2,h3,h4,h5,h6⟩
  exact ⟨u,(hi u).2 ⟨h2,h3,h6⟩,by omega,h5⟩
theorem cmpI_any {l:List Iv} {f t:Int} (h0:0≤f) (ht:t≤1099511627776) (s:Int):(cmpI l f t).any (inP s)=(decide (f≤s∧s≤t) && !inI l s):=by
 unfold cmpI
 rw [(cmR_spec 2 _ _).2]
 have e:∀ x y,okR 2 x y=(x && !y):=fun x y=>by cases x <;> cases y <;> rfl
 rw [e]
 by_cases hs:0≤s∧s≤1099511627776
 ·rw [decide_eq_true hs,Bool.true_and,any_inI hs (l:=[⟨f,t⟩])]
  congr 1
  rw [List.any_cons,List.any_nil,Bool.or_false]
  by_cases hc:f≤s∧s≤t
  ·rw [decide_eq_true hc]; exact inP_iff.2 hc
  ·rw [decide_eq_false hc]; exact inP_ff.2 hc
 ·rw [decide_eq_false hs,decide_eq_false (show ¬ (f≤s∧s≤t) by omega)]; rfl
def rowD (k:Int) (t:Tol) (a b:List Sp) (e:Int) (r:Rw):List Iv :=
 if saF k t (r.vals.getD 0 default) (r.vals.getD 1 default)=true then [] else
  cmpI (cmR 1 (iclip (nearI k t b (r.vals.getD 0 default) e) r.frm r.to) (iclip (nearI k t a (r.vals.getD 1 default) e) r.frm r.to)) r.frm r.to
def spI (k:Int) (t:Tol) (a b:List Sp) (e:Int):List Iv:=norI ((zipR a b).flatMap (rowD k t a b e))
theorem sp_spec {k:Int} {t:Tol} {a b:List Sp} {e:Int} (ha:Vl 0 none a) (hb:Vl 0 none b) (na:a≠[]) (nb:b≠[]) (ta:(lastSp a).to=e) (tb:(lastSp b).to=e) (h0:0≤t.time) (h1:t.time≤1099511627776) (hE:0≤e) :
  Nor 0 (spI k t a b e)∧∀ s,(spI k t a b e).any (inP s)=true↔(0≤s∧s≤e)∧saF k t (atL a s) (atL b s)=false∧¬ (nearP k t (atL b) (atL a s) e s∧nearP k t (atL a) (atL b s) e s):=by
 obtain ⟨n1,n2⟩:=norI_spec ((zipR a b).flatMap (rowD k t a b e))
 have hT:=(ha.last na).2
 rw [ta] at hT
 refine ⟨n1,fun s=> ?_⟩
 unfold spI
 rw [n2]
 obtain ⟨_,hr⟩:=zipR_rw ha hb na nb ta tb (Int.le_refl 0) hE
 have hv:∀ s,((zipR a b).flatMap (rowD k t a b e)).any (inP s)=(decide (0≤s∧s≤e)&&(!saF k t (atL a s) (atL b s) && !((nearI k t b (atL a s) e).any (inP s)&&(nearI k t a (atL b s) e).any (inP s)))):=by
  refine hr.any (rowD k t a b e) (fun s=> !saF k t (atL a s) (atL b s) && !((nearI k t b (atL a s) e).any (inP s)&&(nearI k t a (atL b s) e).any (inP s))) (by omega) fun r _ r1 r2 r3 r4 s=> ?_
  by_cases hs:r.frm≤s∧s≤r.to
  ·have hv:=r4 s hs.1 hs.2
   unfold rowD
   rw [hv,show [atL a s,atL b s].getD 0 default=atL a s from rfl,show [atL a s,atL b s].getD 1 default=atL b s from rfl,decide_eq_true hs,Bool.true_and]
   by_cases hq:saF k t (atL a s) (atL b s)=true
   ·rw [if_pos hq,hq]; rfl
   ·rw [if_neg hq]
    simp only [Bool.not_eq_true] at hq
    rw [hq,cmpI_any (by omega) (by omega),decide_eq_true hs,Bool.true_and,any_inI (show 0≤s∧s≤1099511627776 by omega),(cmR_spec 1 _ _).2,decide_eq_true (show 0≤s∧s≤1099511627776 by omega),Bool.true_and,any_inI (show 0≤s∧s≤1099511627776 by omega),any_inI (show 0≤s∧s≤1099511627776 by omega),(iclip_spec _ _ _).2,(iclip_spec _ _ _).2]
    have hlo:loT r.frm≤s∧s≤hiT r.to:=by
     unfold loT hiT
     constructor <;> split <;> omega
    rw [decide_eq_true hlo,Bool.and_true,Bool.and_true]
    have eo:∀ x y,okR 1 x y=(x&&y):=fun x y=>by cases x <;> cases y <;> rfl
    rw [eo]
    rfl
  ·rw [decide_eq_false hs,Bool.false_and]
   unfold rowD
   split
   ·rfl
   ·rw [cmpI_any (by omega) (by omega),decide_eq_false hs,Bool.false_and]
 by_cases hs:0≤s∧s≤1099511627776
 ·rw [any_inI hs,hv s,Bool.and_eq_true,Bool.and_eq_true,decide_eq_true_eq]
  refine and_congr_right fun hse=>and_congr (by simp) ?_
  rw [Bool.not_eq_true',← Bool.not_eq_true,Bool.and_eq_true,near_any k t hb nb tb h0 h1 ⟨hE,hT⟩,near_any k t ha na ta h0 h1 ⟨hE,hT⟩]
  simp only [hse,true_and,and_self]
 ·rw [inI_out hs]
  constructor
  ·intro h; cases h
  ·intro h; omega
--END
end Go.Proofs.YtiekphbkomddfaaGreatDoor.S1
namespace Go.Proofs.YtiekphbkomddfaaGreatDoor.S1
open Go Go.Ab Go.Proofs
-- nolay
attribute [local instance] LT10
theorem near_len (k:Int) (t:Tol) (l:List Sp) (v:Str) (e:Int):(nearI k t l v e).length≤l.length:=by
 have h0:=nrS_len k t v l
 unfold nearI grwI mvI
 cases dlyB (subI .i64 0 t.time) t.time
 ·exact Nat.zero_le _
 ·have h1:=filt_len ((norI (nrS k t v l)).map (mvF (subI .i64 0 t.time) (subI .i64 0 (subI .i64 0 t.time)))) 0 e
  have h2:=norI_len (nrS k t v l)
  rw [List.length_map] at h1
  show (iclip _ 0 e).length≤_
  omega
theorem cmR_len (n:Int) (a b:List Iv):(cmR n a b).length≤2+2 * (a.length+b.length):=by
 have h1:=cmbS_len a b n (cutsR a b) []
 have h2:=(cutsR_len a b).2
 unfold cmR
 rw [List.length_append] at h2
 simp only [List.length_nil] at h1
 omega
theorem rowD_len (k:Int) (t:Tol) (a b:List Sp) (e:Int) (r:Rw) (ha:a.length≤100) (hb:b.length≤100):(rowD k t a b e r).length≤808:=by
 unfold rowD
 split
 ·exact Nat.zero_le _
 ·unfold cmpI
  refine Nat.le_trans (cmR_len _ _ _) ?_
  have h1:=cmR_len 1 (iclip (nearI k t b (r.vals.getD 0 default) e) r.frm r.to) (iclip (nearI k t a (r.vals.getD 1 default) e) r.frm r.to)
  have h2:=filt_len (nearI k t b (r.vals.getD 0 default) e) r.frm r.to
  have h3:=filt_len (nearI k t a (r.vals.getD 1 default) e) r.frm r.to
  have h4:=near_len k t b (r.vals.getD 0 default) e
  have h5:=near_len k t a (r.vals.getD 1 default) e
  simp only [List.length_singleton]
  omega
theorem zipW_vals (a b : List Sp) (T : Int) : ∀ (n : Nat) (f : Int) (p q : Nat), ∀ r ∈ zipW a b T n f p q, r.vals.length = 2
  | 0, _, _, _, _, h => by cases h
  | n + 1, f, p, q, r, h => by
    rw [zipW] at h
    split at h
    · rcases List.mem_cons.1 h with rfl | h
      · rfl
      · exact zipW_vals a b T n _ _ _ r h
    · cases h
abbrev spT (J:St→Prop):List It:=[.blk 1,.code [1,1,1,1,1,0,1,0,0,1,1,1],stp [1,2,3,4,12,13,14,36,37,38] J,.blk 0,.code [1,1,1,1,1,1]]
section
variable {k:Int} {t:Tol} {a b:List Sp} {e:Int} {q:List Rw} {f u:Int} {vs:List Str} {x y:Str} {has hb ha:MKey→Bool} {nb na:MKey→List Iv} {out:List Iv} {N i:Nat} {J:St→Prop} {K:D→Heap→Prop}
theorem spans3 (hx:nb [.s x]=nearI k t b x e) (hy:na [.s y]=nearI k t a y e) (la:a.length≤100) (lb:b.length≤100) (lo:out.length≤100000) (hi:i < q.length) (hq:q.length≤lenM)
  (hJ:∀ st,StLe (En Tryz.f55).nt st (SSp k t a b e q has hb ha nb na (out++cmpI (cmR 1 (iclip (nearI k t b x e) f u) (iclip (nearI k t a y e) f u)) f u) N ((i+1:Nat):Int))→J st) :
  At (En Tryz.f55) (fh Tryz.f55 K) (.code [1,1,1,1,1,0,1,0,0,1,1,0,0,1,1,1,1,1]::spT J) (SSq k t a b e q f u vs x y has hb ha nb na out N i):=by
 obtain ⟨tm,tv,tu⟩:=t
 have h4:=near_len k ⟨tm,tv,tu⟩ b x e
 have h5:=near_len k ⟨tm,tv,tu⟩ a y e
 have h2:=filt_len (nearI k ⟨tm,tv,tu⟩ b x e) f u
 have h3:=filt_len (nearI k ⟨tm,tv,tu⟩ a y e) f u
 have h6:=cmR_len 1 (iclip (nearI k ⟨tm,tv,tu⟩ b x e) f u) (iclip (nearI k ⟨tm,tv,tu⟩ a y e) f u)
 have h7:=cmR_len 2 [⟨f,u⟩] (cmR 1 (iclip (nearI k ⟨tm,tv,tu⟩ b x e) f u) (iclip (nearI k ⟨tm,tv,tu⟩ a y e) f u))
 simp only [List.length_singleton] at h7
 rw [← hx] at hJ h2 h4 h6 h7
 rw [← hy] at hJ h3 h5 h6 h7
 refine runS_sound hmix _ _ _ (of_eq (nSpd k tm tv tu a b e q f u vs x y has hb ha nb na out N i J K) ⟨PureW.mk (c20 _ f u (by omega)),PureW.mk (c20 _ f u (by omega)),PureW.mk (c91 _ _ (by omega) (by omega)),PureW.mk (c92 _ f u (by omega)),⟨upd_same _ _ _,?_⟩,hJ _ ?_⟩)
 ·unfold cmpI roomM; omega
 ·rw [add1 hi hq,upd_upd]
  generalize cmpI _ f u=l
  unfold SSp hSp
  rw [List.length_append]
  exact (StLe.set 14 rfl (Wk.app (a:=out) (b:=l) (enc:=Iv.d) rfl rfl (fun _ _=>rfl) (.inr rfl)) rfl rfl).cast (by kernel_rfl)
theorem up0 {n:Nat} {N:Nat}:upd (upd (fun _=>(none:Option Nat)) 0 (some n)) (N+1) none=upd (fun _=>none) 0 (some n):=by
 funext l
 unfold upd
 cases hb:Nat.beq l (N+1)
 ·rfl
 ·have:=Nat.eq_of_beq_eq_true hb
  subst this; rfl
theorem up1 {α:Type} {N:Nat}:upd (fun _=>(none:Option α)) N none=fun _=>none:=by
 funext l
 unfold upd
 cases Nat.beq l N <;> rfl
theorem hSpA {has':MKey→Bool} {l:List Iv} {n:Nat}:(⟨upd (upd (bxSp k t has hb ha nb na) 0 (some (.map .ss has' (.b (smF k t has'))))) 2 (some (.map .str (updK ha [.s y] true) (.d (.list 0 0 (fun _=> .junk) .full) (updK (fun x=>L (na x) 2 Iv.d) [.s y] (L l 2 Iv.d))))),3,upd (upd (fun _=>none) 0 (some n)) (N+1) none,N+1+1,upd (fun _=>none) (N+1) none⟩:Heap)=hSp k t has' hb (updK ha [.s y] true) nb (updK na [.s y] l) n (N+1):=by
 rw [updK_L,up0,up1]
 have:upd (upd (bxSp k t has hb ha nb na) 0 (some (.map .ss has' (.b (smF k t has'))))) 2 (some (.map .str (updK ha [.s y] true) (.d (.list 0 0 (fun _=> .junk) .full) fun x=>L (updK na [.s y] l x) 2 Iv.d)))=bxSp k t has' hb (updK ha [.s y] true) nb (updK na [.s y] l):=by
  funext l
  rcases l with _ | _ | _ | l <;> rfl
 rw [this]; rfl
theorem hSp0 {has':MKey→Bool} {n:Nat}:(⟨upd (bxSp k t has hb ha nb na) 0 (some (.map .ss has' (.b (smF k t has')))),3,upd (fun _=>none) 0 (some n),N+1+0,fun _=>none⟩:Heap)=hSp k t has' hb ha nb na n N :=
 hp_eq (fun l=>by rcases l with _ | _ | _ | l <;> rfl) rfl rfl
theorem hSpB {has':MKey→Bool} {l:List Iv} {n:Nat}:(⟨upd (upd (bxSp k t has hb ha nb na) 0 (some (.map .ss has' (.b (smF k t has'))))) 1 (some (.map .str (updK hb [.s x] true) (.d (.list 0 0 (fun _=> .junk) .full) (updK (fun x=>L (nb x) 2 Iv.d) [.s x] (L l 2 Iv.d))))),3,upd (upd (fun _=>none) 0 (some n)) (N+1) none,N+1+1,upd (fun _=>none) (N+1) none⟩:Heap)=hSp k t has' (updK hb [.s x] true) ha (updK nb [.s x] l) na n (N+1):=by
 rw [updK_L,up0,up1]
 have:upd (upd (bxSp k t has hb ha nb na) 0 (some (.map .ss has' (.b (smF k t has'))))) 1 (some (.map .str (updK hb [.s x] true) (.d (.list 0 0 (fun _=> .junk) .full) fun y=>L (updK nb [.s x] l y) 2 Iv.d)))=bxSp k t has' (updK hb [.s x] true) ha (updK nb [.s x] l) na:=by
  funext l
  rcases l with _ | _ | _ | l <;> rfl
 rw [this]; rfl
theorem updN_ok {F:Str→List Iv} (h:∀ v,hb [.s v]=true→nb [.s v]=F v):∀ v,updK hb [.s x] true [.s v]=true→updK nb [.s x] (F x) [.s v]=F v:=fun v hv=>by
 unfold updK at hv ⊢
 by_cases hx:v=x
 ·subst hx; rw [decide_eq_true rfl]; rfl
 ·have:decide (([.s v]:MKey)=[.s x])=false:=decide_eq_false fun e=>hx (by cases e; rfl)
  rw [this] at hv ⊢
  exact h v hv
theorem spans2 [HasW] (hx:nb [.s x]=nearI k t b x e) (hA:∀ v,ha [.s v]=true→na [.s v]=nearI k t a v e) (la:a.length≤100) (lb:b.length≤100) (lo:out.length≤100000) (hi:i < q.length) (hq:q.length≤lenM)
  (hJ:∀ st has' ha' na' N',N'≤N+1→(∀ v,ha' [.s v]=true→na' [.s v]=nearI k t a v e)→StLe (En Tryz.f55).nt st (SSp k t a b e q has' hb ha' nb na' (out++cmpI (cmR 1 (iclip (nearI k t b x e) f u) (iclip (nearI k t a y e) f u)) f u) N' ((i+1:Nat):Int))→J st) :
  At (En Tryz.f55) (fh Tryz.f55 K) (.code [1,1,1,1,1,0,1,0,0,1,1,0,0,1,1,1,1]::spT J) (SSq k t a b e q f u vs x y has hb ha nb na out N i):=by
 obtain ⟨tm,tv,tu⟩:=t
 refine runS_sound hmix _ _ _ (of_eq (nSpc k tm tv tu a b e q f u vs x y has hb ha nb na out N i J K) (cond_intro (fun h=>⟨fr (eNear k tm tv tu a y e has (by omega)) [0] [],trivial,?_⟩) fun h=> ?_))
 ·have hA':=updN_ok (x:=y) hA
  exact at_le (spans3 (vs:=vs) (has:=hasN y a has) (N:=N+1) hx (hA' y (by unfold updK; rw [decide_eq_true rfl]; rfl)) la lb lo hi hq fun st hs=>hJ st _ _ _ _ (Nat.le_refl _) hA' hs) ((StLe.heap hSpA).cast (by kernel_rfl))
 ·exact spans3 hx (hA y (by simpa using h)) la lb lo hi hq fun st hs=>hJ st _ _ _ _ (by omega) hA hs
theorem spans1 [HasW] {r:Rw} (hB:∀ v,hb [.s v]=true→nb [.s v]=nearI k t b v e) (hA:∀ v,ha [.s v]=true→na [.s v]=nearI k t a v e) (la:a.length≤100) (lb:b.length≤100) (lo:out.length≤100000) (hi:i < q.length) (hq:q.length≤lenM)
  (hJ:∀ st has' hb' ha' nb' na' N',N'≤N+2→(∀ v,hb' [.s v]=true→nb' [.s v]=nearI k t b v e)→(∀ v,ha' [.s v]=true→na' [.s v]=nearI k t a v e)→StLe (En Tryz.f55).nt st (SSp k t a b e q has' hb' ha' nb' na' (out++rowD k t a b e r) N' ((i+1:Nat):Int))→J st) :
  At (En Tryz.f55) (fh Tryz.f55 K) (.code [1,1,1,1,1,0,1,0,0,1,1,0,0,1,1,0,1] :: .code [1,1,1,1,1,0,1,0,0,1,1,0,0,1,1,1]::spT J) (SSr k t a b e q r.frm r.to r.vals (r.vals.getD 0 default) (r.vals.getD 1 default) has hb ha nb na out N i (saF k t (r.vals.getD 0 default) (r.vals.getD 1 default))):=by
 obtain ⟨tm,tv,tu⟩:=t
 refine runS_sound hmix _ _ _ (of_eq (nSpb k tm tv tu a b e q r.frm r.to r.vals (r.vals.getD 0 default) (r.vals.getD 1 default) has hb ha nb na out N i _ J K) (cond_intro (fun h=> ?_) fun h=> ?_))
 ·have hd:rowD k ⟨tm,tv,tu⟩ a b e r=[]:=by unfold rowD; rw [if_pos h]
  refine hJ _ has hb ha nb na N (by omega) hB hA ?_
  rw [hd,List.append_nil,add1 hi hq]
  exact (StLe.refl _ _).cast (by kernel_rfl)
 ·have hd:rowD k ⟨tm,tv,tu⟩ a b e r=cmpI (cmR 1 (iclip (nearI k ⟨tm,tv,tu⟩ b (r.vals.getD 0 default) e) r.frm r.to) (iclip (nearI k ⟨tm,tv,tu⟩ a (r.vals.getD 1 default) e) r.frm r.to)) r.frm r.to:=by
   unfold rowD
   rw [if_neg (by rw [h]; simp)]
  refine cond_intro (fun h1=>⟨fr (eNear k tm tv tu b _ e has (by omega)) [0] [],trivial,?_⟩) fun h1=> ?_
  ·have hB':=updN_ok (x:=r.vals.getD 0 default) hB
   exact at_le (spans2 (vs:=r.vals) (has:=hasN (r.vals.getD 0 default) b has) (N:=N+1) (hB' _ (by unfold updK; rw [decide_eq_true rfl]; rfl)) hA la lb lo hi hq fun st _ _ _ N' hN hA' hs=>hJ st _ _ _ _ _ N' (by omega) hB' hA' (by rw [hd]; exact hs)) ((StLe.heap hSpB).cast (by kernel_rfl))
  ·exact spans2 (vs:=r.vals) (hB _ (by simpa using h1)) hA la lb lo hi hq fun st _ _ _ N' hN hA' hs=>hJ st _ _ _ _ _ N' (by omega) hB hA' (by rw [hd]; exact hs)
end
structure SpX where (i:Nat) (has hb ha:MKey→Bool) (nb na:MKey→List Iv) (N:Nat)
structure SpV (k:Int) (t:Tol) (a b:List Sp) (e:Int) (q:List Rw) (x:SpX):Prop where
 i:x.i≤q.length
 n:x.N≤2 * x.i
 b:∀ v,x.hb [.s v]=true→x.nb [.s v]=nearI k t b v e
 a:∀ v,x.ha [.s v]=true→x.na [.s v]=nearI k t a v e
def heapSp0:Heap:=⟨fun _=>none,1,fun _=>none,0,fun _=>none⟩
theorem outS_len (k : Int) (t : Tol) (a b : List Sp) (e : Int) (la : a.length ≤ 100) (lb : b.length ≤ 100) : ∀ q : List Rw, (q.flatMap (rowD k t a b e)).length ≤ 808 * q.length
  | [] => Nat.le_refl _
  | r :: q => by
    have h1 := outS_len k t a b e la lb q
    have h2 := rowD_len k t a b e r la lb
    rw [List.flatMap_cons, List.length_append, List.length_cons]; omega
theorem e55 [HasW] (k:Int) (t:Tol) (a b:List Sp) (e:Int) (has:MKey→Bool) (hz:ZipOk a b) (la:a.length≤100) (lb:b.length≤100) (lq:(zipR a b).length≤100) :
  Does PP 55 [.agg [I k,I t.time,.str t.val,B t.unk,.mp 0],L a 3 Sp.d,L b 3 Sp.d,I e] (hSm k t has) (.tup [L (spI k t a b e) 2 Iv.d,I 0]) heapSp0:=by
 have c0:Does PP 55 [.agg [I k,I t.time,.str t.val,B t.unk,.mp 0],L a 3 Sp.d,L b 3 Sp.d,I e] (hSm k t has) (.tup [L (spI k t a b e) 2 Iv.d,I 0]) ⟨fun _=>none,3,fun _=>none,2 * (zipR a b).length+1,fun _=>none⟩:=by
  obtain ⟨tm,tv,tu⟩:=t
  refine du F55 (by kernel_rfl) (of_eq (nSp k tm tv tu a b e has _) ⟨⟨Wks.cons (Wk.litL (enc:=LLd) (l:=[a,b]) rfl rfl) (Wks.refl _),c88 a b hz (by omega) (by omega)⟩,trivial,trivial,fun hlm=> ?_⟩)
  have hv:=zipW_vals a b (lastSp a).to ((lastSp a).to+1 - (a.getD 0 default).frm).toNat (a.getD 0 default).frm 0 0
  have hv:∀ r∈zipR a b,r.vals.length=2:=hv
  unfold spI
  generalize zipR a b=q at *
  refine at_le (st':=SSp k ⟨tm,tv,tu⟩ a b e q has (fun _=>false) (fun _=>false) (fun _=>[]) (fun _=>[]) ((q.take 0).flatMap (rowD k ⟨tm,tv,tu⟩ a b e)) 0 ((0:Nat):Int)) ?_ ((StLe.heapLe (h':=⟨bxSp k ⟨tm,tv,tu⟩ has (fun _=>false) (fun _=>false) (fun _=>[]) (fun _=>[]),3,fun _=>none,0,fun _=>none⟩) ?_).trans ((StLe.idle _ none 14 2 (fun i=>Iv.d (([]:List Iv).getD i default)) rfl).cast (by kernel_rfl)))
  ·refine lp (fn:=Tryz.f55) (SpV k ⟨tm,tv,tu⟩ a b e q) (fun x=>SSp k ⟨tm,tv,tu⟩ a b e q x.has x.hb x.ha x.nb x.na ((q.take x.i).flatMap (rowD k ⟨tm,tv,tu⟩ a b e)) x.N x.i) (fun x=>q.length - x.i) [1,2,3,4,12,13,14,36,37,38] (by kernel_rfl) (fun x hx=>of_eq (nSpa k tm tv tu a b e q x.has x.hb x.ha x.nb x.na _ x.N x.i _ _) (cond_intro (fun hlt=> ?_) fun hge=> ?_)) ⟨0,has,fun _=>false,fun _=>false,fun _=>[],fun _=>[],0⟩ ⟨Nat.zero_le _,Nat.le_refl _,fun _ h=>(by cases h),fun _ h=>(by cases h)⟩
   ·obtain ⟨i,has,hb,ha,nb,na,N⟩:=x
    obtain ⟨hi,hN,hB,hA⟩:=hx
    simp only at hi hN hB hA hlt ⊢
    have hlt:=ltI hlt
    have h2:=hv (q.getD i default) (by rw [show q.getD i default=q[i] by simp [List.getD,hlt]]; exact List.getElem_mem hlt)
    have hol:=outS_len k ⟨tm,tv,tu⟩ a b e la lb (q.take i)
    have htl:(q.take i).length=i:=by rw [List.length_take]; omega
    have hs:(q.take (i+1)).flatMap (rowD k ⟨tm,tv,tu⟩ a b e)=(q.take i).flatMap (rowD k ⟨tm,tv,tu⟩ a b e)++rowD k ⟨tm,tv,tu⟩ a b e (q.getD i default):=by
     rw [take_snoc _ _ hlt,List.flatMap_append,List.flatMap_singleton]
    rw [Int.toNat_natCast]
    refine ⟨⟨by omega,by omega⟩,trivial,⟨by omega,by omega⟩,⟨by omega,by omega⟩,fr (eSm k tm tv tu _ _ has) [0] [],?_⟩
    refine at_le (spans1 (r:=q.getD i default) (has:=updK has [.s ((q.getD i default).vals.getD 0 default),.s ((q.getD i default).vals.getD 1 default)] true) (out:=(q.take i).flatMap (rowD k ⟨tm,tv,tu⟩ a b e)) (N:=N) hB hA la lb (by omega) hlt hlm fun st has' hb' ha' nb' na' N' hN' hB' hA' hs'=>⟨⟨i+1,has',hb',ha',nb',na',N'⟩,⟨hlt,(by show N'≤2 * (i+1); omega),hB',hA'⟩,(by show q.length - (i+1) < q.length - i; omega),(by show StLe _ st (SSp k ⟨tm,tv,tu⟩ a b e q has' hb' ha' nb' na' ((q.take (i+1)).flatMap _) N' _); rw [hs]; exact hs')⟩) ((StLe.heap hSp0).cast (by kernel_rfl))
   ·have hge:=geI hge
    rw [List.take_of_length_le hge]
    obtain ⟨i,has,hb,ha,nb,na,N⟩:=x
    obtain ⟨hi,hN,hB,hA⟩:=hx
    simp only at hi hN hB hA hge ⊢
    have hol:=outS_len k ⟨tm,tv,tu⟩ a b e la lb q
    generalize q.flatMap (rowD k ⟨tm,tv,tu⟩ a b e)=out at *
    refine at_le (st':=⟨[(14,L out 2 Iv.d)],hSpF k ⟨tm,tv,tu⟩ has hb ha nb na N⟩) (runS_sound hmix _ _ _ (of_eq (nSpe k ⟨tm,tv,tu⟩ has hb ha nb na out N _) ⟨PureW.mk (c58 out (by omega)),RetLe.of (Wk.refl _) ⟨fun _ _ h=>(by cases h),Nat.le_refl _,fun _ _ h=>(by cases h),(by show N+1≤2 * q.length+1; omega),fun _ _ h=>(by cases h),fun _ _=>rfl⟩⟩)) ?_
    exact ((StLe.set (sl:=[(14,LT out 2 Iv.d 0)]) (h:=hSp k ⟨tm,tv,tu⟩ has hb ha nb na out.length N) 14 (d':=L out 2 Iv.d) rfl Wk.tokL rfl rfl).trans (StLe.heapLe (h':=hSpF k ⟨tm,tv,tu⟩ has hb ha nb na N) ⟨fun l row' e=>⟨row',e,RowLe.refl _⟩,Nat.le_refl _,fun _ _ h=>(by cases h),Nat.le_refl _,fun _ _ h=>(by cases h),fun _ _=>rfl⟩)).cast (by kernel_rfl)
  ·refine ⟨fun l row' e=> ?_,Nat.le_refl _,fun _ _ h=>(by cases h),Nat.le_refl _,fun _ _ h=>(by cases h),fun _ _=>rfl⟩
   rcases l with _ | _ | _ | l
   ·cases e; exact ⟨_,rfl,RowLe.refl _⟩
   ·cases e; exact ⟨_,rfl,.map (fun _=>rfl) rfl fun _=>Wk.nilL⟩
   ·cases e; exact ⟨_,rfl,.map (fun _=>rfl) rfl fun _=>Wk.nilL⟩
   ·cases e
 exact Does.forget c0 ⟨fun _ _ h=>(by cases h),fun _ _ h=>(by cases h),fun _ _=>rfl,fun _ _ _ h=>(by cases h)⟩ ⟨fun i _=>(inferInstance:DD (Iv.d ((spI k t a b e).getD i default))).p,trivial,trivial⟩ rfl
end Go.Proofs.YtiekphbkomddfaaGreatDoor.S1
namespace Go.Proofs.YtiekphbkomddfaaGreatDoor.S1
open Go Go.Ab Go.Proofs
theorem F209:OkF 209 Tryz.f209:=⟨by kernel_rfl,by kernel_rfl,by kernel_rfl⟩
def lv209:List (List Nat × List Nat):=[([1,1,1,1,0,1,0],[2,3,11,44,45,46])]
noncomputable def nWis (w:Wv) (lim:Int) (c:Int) (sig:Int):List Nat→Nat→Option Ans:=scrAt [([1,0,0],2,Ans.eff (I (callR w lim c sig)) (hM w lim (addI .i64 c 1)))]
theorem nWi [Lay] (w:Wv) (lim c sig a b:Int) (K:D→Heap→Prop):runS (En Tryz.f209) (fh Tryz.f209 K) (nWis w lim c sig) lv209 200 [.code []] ⟨argSlots 0 [.bp 0 0,I sig,I a,I b],hM w lim c⟩ =
 (Does PP 210 [D.bp 0 0,I sig] {box:=upd (fun _=>none) 0 (some (Row.lit [L w.sig 3 Sig.d,L w.gap 2 Iv.d,I w.fin,I lim,I c])),nl:=1,hw:=fun _=>none,nt:=0,vw:=fun _=>none:Heap} (I (callR w lim c sig)) (hM w lim (addI .i64 c 1))∧bif callR w lim c sig !=0 then K (.tup [.list 0 0 (fun _=>D.junk) .full,I (callR w lim c sig)]) {box:=upd (fun _=>none) 0 (some (Row.lit [L w.sig 3 Sig.d,L w.gap 2 Iv.d,I w.fin,I lim,I (addI .i64 c 1)])),nl:=1,hw:=fun _=>none,nt:=0,vw:=fun _=>none:Heap} else bif bif bif decide (a < 0) then true else decide (a > b) then true else decide (b > w.fin) then K (.tup [.list 0 0 (fun _=>D.junk) .full,I 2]) {box:=upd (fun _=>none) 0 (some (Row.lit [L w.sig 3 Sig.d,L w.gap 2 Iv.d,I w.fin,I lim,I (addI .i64 c 1)])),nl:=1,hw:=fun _=>none,nt:=0,vw:=fun _=>none:Heap} else (0≤sig∧sig < (↑w.sig.length:Int))∧((w.sig.getD sig.toNat default).chg.length≤lenM→At (En Tryz.f209) (fh Tryz.f209 K) [It.code [1,1,1,1,0,1,0],It.blk 0,It.code [1,1,1,1,1]] {sl:=[(2,I a),(3,I b),(11,.list 0 0 (fun _=>D.junk) .full),(44,L (w.sig.getD sig.toNat default).chg 2 Chg.d),(45,I (↑(w.sig.getD sig.toNat default).chg.length:Int)),(46,I 0)],h:={box:=upd (fun _=>none) 0 (some (Row.lit [L w.sig 3 Sig.d,L w.gap 2 Iv.d,I w.fin,I lim,I (addI .i64 c 1)])),nl:=1,hw:=fun _=>none,nt:=0,vw:=fun _=>none:Heap}:St})):=by kernel_rfl
def SWi (w:Wv) (lim c a b:Int) (out ls:List Chg) (i:Int):St:=⟨[(2,I a),(3,I b),(11,LT out 2 Chg.d 0),(44,L ls 2 Chg.d),(45,I ls.length),(46,I i)],hT (hM w lim c) out.length⟩
noncomputable def nWias:List Nat→Nat→Option Ans:=scrAt []
theorem nWia [Lay] (w:Wv) (lim c a b:Int) (out ls:List Chg) (i:Int) (J:St→Prop) (K:D→Heap→Prop):runS (En Tryz.f209) (fh Tryz.f209 K) (nWias ) lv209 200 [.code [1,1,1,1,0,1,0,0],stp [2,3,11,44,45,46] J,.blk 0,.code [1,1,1,1,1]] (SWi w lim c a b out ls i) =
 (bif decide (i < (↑ls.length:Int)) then (0≤i∧i < (↑ls.length:Int))∧True∧bif bif decide ((ls.getD i.toNat default).time≥a) then decide ((ls.getD i.toNat default).time≤b) else false then (upd (fun _=>none) 0 (some out.length) 0=some out.length∧(out.length+1) * 24≤roomM)∧J {sl:=[(2,I a),(3,I b),(11,.list (out.length+1) 2 (catG out.length (fun i=>(out.getD i default).d) (litG [.agg [I (ls.getD i.toNat default).time,.str (ls.getD i.toNat default).val]])) (.tok 0 2)),(44,L ls 2 Chg.d),(45,I (↑ls.length:Int)),(46,I (addI .i64 i 1))],h:={box:=upd (fun _=>none) 0 (some (Row.lit [L w.sig 3 Sig.d,L w.gap 2 Iv.d,I w.fin,I lim,I c])),nl:=1,hw:=upd (upd (fun _=>none) 0 (some out.length)) 0 (some (out.length+1)),nt:=1,vw:=fun _=>none:Heap}:St} else J {sl:=[(2,I a),(3,I b),(11,.list out.length 2 (fun i=>(out.getD i default).d) (.tok 0 2)),(44,L ls 2 Chg.d),(45,I (↑ls.length:Int)),(46,I (addI .i64 i 1))],h:={box:=upd (fun _=>none) 0 (some (Row.lit [L w.sig 3 Sig.d,L w.gap 2 Iv.d,I w.fin,I lim,I c])),nl:=1,hw:=upd (fun _=>none) 0 (some out.length),nt:=1,vw:=fun _=>none:Heap}:St} else K (.tup [.list out.length 2 (fun i=>(out.getD i default).d) (.tok 0 2),I 0]) {box:=upd (fun _=>none) 0 (some (Row.lit [L w.sig 3 Sig.d,L w.gap 2 Iv.d,I w.fin,I lim,I c])),nl:=1,hw:=upd (fun _=>none) 0 (some out.length),nt:=1,vw:=fun _=>none:Heap}):=by kernel_rfl
theorem hM_low (w:Wv) (lim c:Int) (nl nt:Nat):LowH 1 0 ⟨(hM w lim c).box,nl,fun _=>none,nt,fun _=>none⟩:=by
 refine ⟨fun k row e=> ?_,fun t n e=>(by cases e),fun _ _=>rfl,fun t n f e=>(by cases e)⟩
 rcases k with _ | k
 ·cases e
  exact ⟨by omega,⟨fun i _=>(inferInstance:DD (Sig.d (w.sig.getD i default))).p,fun i _=>(inferInstance:DD (Iv.d (w.gap.getD i default))).p,trivial,trivial,trivial,trivial⟩,rfl⟩
 ·cases e
theorem forgetM [Lay] {f:Nat} {args:List D} {v:D} {w:Wv} {lim c c':Int} {nl nt:Nat} (h:Does PP f args (hM w lim c) v ⟨(hM w lim c').box,nl,fun _=>none,nt,fun _=>none⟩) (h0:RenOk v) (hv:ren (fbF 1 nl) (fbF 0 nt) v=v):Does PP f args (hM w lim c) v (hM w lim c') :=
 Does.forget h (hM_low w lim c' nl nt) h0 hv
theorem heapM1 {w:Wv} {lim c:Int} {h:Heap} {nl nt:Nat} (hb:h.box 0=some (memR w lim c)) (hn:h.nl≤nl) (ht:h.nt≤nt):HeapLe h ⟨(hM w lim c).box,nl,fun _=>none,nt,fun _=>none⟩:=by
 refine ⟨fun l row' e=> ?_,hn,fun t n e=>(by cases e),ht,fun t n e=>(by cases e),fun _ _=>rfl⟩
 rcases l with _ | l
 ·cases e; exact ⟨_,hb,RowLe.refl _⟩
 ·cases e
theorem eOfM [Lay] (w:Wv) (hq:∀ q∈w.sig,q.chg.length≤900∧q.width≤1000000∧Inc (-1) q.chg) (lim c sig frm til:Int):Does PP 54 [.iface 36 (.bp 0 0),I sig,I frm,I til] (hM w lim c) (.tup [L (ofR w lim c sig frm til).1 3 Sp.d,I (ofR w lim c sig frm til).2.1]) (hM w lim (ofR w lim c sig frm til).2.2) :=
 forgetM (nl:=4) (nt:=1) (e54 hq c) ⟨fun i _=>(inferInstance:DD (Sp.d ((ofR w lim c sig frm til).1.getD i default))).p,trivial,trivial⟩ rfl
def inR (l:List Chg) (a b:Int):List Chg:=l.filter fun x=>decide (x.time≥a)&&decide (x.time≤b)
def winR (w:Wv) (lim c sig a b:Int):List Chg × Int:=if callR w lim c sig≠0 then ([],callR w lim c sig) else if a < 0∨a > b∨b > w.fin then ([],2) else (inR (sigOf w sig).chg a b,0)
theorem e209 [Lay] (w:Wv) (hq:∀ q∈w.sig,q.chg.length≤900∧q.width≤1000000∧Inc (-1) q.chg) (lim c sig a b:Int):Does PP 209 [.bp 0 0,I sig,I a,I b] (hM w lim c) (.tup [L (winR w lim c sig a b).1 2 Chg.d,I (winR w lim c sig a b).2]) (hM w lim (addI .i64 c 1)):=by
 refine forgetM (nl:=1) (nt:=1) ?_ ⟨fun i _=>(inferInstance:DD (Chg.d ((winR w lim c sig a b).1.getD i default))).p,trivial,trivial⟩ rfl
 refine du F209 (by kernel_rfl) (of_eq (nWi w lim c sig a b _) ⟨e210 _ _ _ _,cond_intro (fun h=> ?_) fun h=> ?_⟩)
 ·have h:callR w lim c sig≠0:=by simpa using h
  rw [winR,if_pos h]
  exact RetLe.of (Wk.tup (Wks.cons Wk.nilL (Wks.refl _))) (heapM1 rfl (Nat.le_refl _) (Nat.zero_le _))
 have hc:=callR_in h
 have h0:¬ callR w lim c sig≠0:=by simpa using h
 rw [winR,if_neg h0]
 have hcc:(bif bif decide (a < 0) then true else decide (a > b) then true else decide (b > w.fin))=decide (a < 0∨a > b∨b > w.fin):=by
  rw [Bool.eq_iff_iff]; simp [or_assoc]
 rw [hcc]
 refine cond_intro (fun h1=> ?_) fun h1=>⟨⟨hc.2.1,hc.2.2⟩,fun hl=> ?_⟩
 ·rw [if_pos (of_decide_eq_true h1)]
  exact RetLe.of (Wk.tup (Wks.cons Wk.nilL (Wks.refl _))) (heapM1 rfl (Nat.le_refl _) (Nat.zero_le _))
 rw [if_neg (of_decide_eq_false h1)]
 have hlq:(sigOf w sig).chg.length≤900:=by
  refine (hq _ ?_).1
  have:sig.toNat < w.sig.length:=by omega
  unfold sigOf
  rw [List.getD_eq_getElem?_getD,List.getElem?_eq_getElem this]
  exact List.getElem_mem this
 change (sigOf w sig).chg.length≤lenM at hl
 refine at_le (st':=SWi w lim (addI .i64 c 1) a b [] (sigOf w sig).chg (0:Nat)) ?_ ((StLe.tok0 (α:=Chg) (enc:=Chg.d) _ 11 2 rfl).cast rfl)
 generalize (sigOf w sig).chg=ls at hl hlq ⊢
 refine lp (fn:=Tryz.f209) (fun z:Nat × List Chg=>z.1≤ls.length∧z.2.length≤z.1∧inR ls a b=z.2++inR (ls.drop z.1) a b) (fun z=>SWi w lim (addI .i64 c 1) a b z.2 ls z.1) (fun z=>ls.length - z.1) [2,3,11,44,45,46] (by kernel_rfl) (fun z hz=>of_eq (nWia w lim (addI .i64 c 1) a b z.2 ls z.1 _ _) ?_) (0,[]) ⟨Nat.zero_le _,Nat.le_refl _,rfl⟩
 obtain ⟨i,out⟩:=z
 obtain ⟨hi,ho,he⟩:=hz
 simp only at hi ho he ⊢
 refine cond_intro (fun hlt=> ?_) fun hge=> ?_
 ·have hlt:=ltI hlt
  rw [add1 hlt hl,Int.toNat_natCast]
  rw [drop_cons _ _ hlt] at he
  unfold inR at he
  rw [List.filter_cons] at he
  generalize ls.getD i default=x at he ⊢
  refine ⟨⟨by omega,by omega⟩,trivial,cond_intro (fun h2=>⟨⟨upd_same _ _ _,by unfold roomM; omega⟩,?_⟩) fun h2=> ?_⟩
  ·have h2:(decide (x.time≥a)&&decide (x.time≤b))=true:=by simpa using h2
   rw [if_pos h2] at he
   refine Nx.of (i+1,out++[x]) ⟨hlt,by simp only [List.length_append,List.length_singleton]; omega,by simp only; unfold inR; rw [he,List.append_assoc]; rfl⟩ (by simp only; omega) ?_
   refine (StLe.set 11 rfl (Wk.snoc (x:=x) (enc:=Chg.d) (t:=0)) rfl rfl).cast ?_
   unfold SWi hT
   rw [List.length_append,List.length_singleton,upd_upd]
   rfl
  ·have h2:¬ (decide (x.time≥a)&&decide (x.time≤b))=true:=by
    intro h3; rw [Bool.and_eq_true] at h3; rw [h3.1,h3.2] at h2; cases h2
   rw [if_neg h2] at he
   exact Nx.mk (i+1,out) ⟨hlt,by simp only; omega,by simp only; exact he⟩ (by simp only; omega)
 ·rw [List.drop_of_length_le (geI hge)] at he
  have he:inR ls a b=out:=by rw [he]; simp [inR]
  rw [he]
  exact RetLe.of (Wk.tup (Wks.cons Wk.tokL (Wks.refl _))) (heapM1 rfl (Nat.le_refl _) (Nat.le_refl _))
end Go.Proofs.YtiekphbkomddfaaGreatDoor.S1
namespace Go.Proofs.YtiekphbkomddfaaGreatDoor.S1
open Go Go.Ab Go.Proofs
-- nolay
attribute [local instance] LT10
theorem F51:OkF 51 Tryz.f51:=⟨by kernel_rfl,by kernel_rfl,by kernel_rfl⟩
def lv51:List (List Nat × List Nat):=[([1,1,0,1,0],[3,6,7,8]),([1,1,1],[3])]
noncomputable def nTms:List Nat→Nat→Option Ans:=scrAt []
theorem nTm (l:List Chg) (K:D→Prop):runS (En Tryz.f51) (fi Tryz.f51 K) (nTms ) lv51 200 [.code []] ⟨argSlots 0 [L l 2 Chg.d],.empty⟩ =
 (l.length≤lenM→At (En Tryz.f51) (fi Tryz.f51 K) [It.code [1,1,0,1,0],It.blk 0,It.code [1,1,1]] {sl:=[(3,.list 0 0 (fun _=>D.junk) .full),(6,L l 2 Chg.d),(7,I (↑l.length:Int)),(8,I 0)],h:=Heap.empty:St}):=by kernel_rfl
def STm (l:List Chg) (out:List Int) (i:Int):St:=⟨[(3,LT out 1 I' 0),(6,L l 2 Chg.d),(7,I l.length),(8,I i)],hN out.length 1⟩
noncomputable def nTmas:List Nat→Nat→Option Ans:=scrAt []
theorem nTma (l:List Chg) (out:List Int) (i:Int) (J:St→Prop) (K:D→Prop):runS (En Tryz.f51) (fi Tryz.f51 K) (nTmas ) lv51 200 [.code [1,1,0,1,0,0],stp [3,6,7,8] J,.blk 0,.code [1,1,1]] (STm l out i) =
 (bif decide (i < (↑l.length:Int)) then (0≤i∧i < (↑l.length:Int))∧True∧(upd (fun _=>none) 0 (some out.length) 0=some out.length∧(out.length+1) * 8≤roomM)∧J {sl:=[(3,.list (out.length+1) 1 (catG out.length (fun i=>I' (out.getD i default)) (litG [I (l.getD i.toNat default).time])) (.tok 0 1)),(6,L l 2 Chg.d),(7,I (↑l.length:Int)),(8,I (addI .i64 i 1))],h:={box:=fun _=>none,nl:=0,hw:=upd (upd (fun _=>none) 0 (some out.length)) 0 (some (out.length+1)),nt:=1,vw:=fun _=>none:Heap}:St} else At (En Tryz.f51) (fi Tryz.f51 K) [It.code [1,1,1]] {sl:=[(3,.list out.length 1 (fun i=>I' (out.getD i default)) (.tok 0 1))],h:={box:=fun _=>none,nl:=0,hw:=upd (fun _=>none) 0 (some out.length),nt:=1,vw:=fun _=>none:Heap}:St}):=by kernel_rfl
noncomputable def nTmbs (out:List Int):List Nat→Nat→Option Ans:=scrAt [([1,1,1,0],1,Ans.pure [L out 1 I'] (L (norI (List.map ptF out)) 2 Iv.d))]
theorem nTmb (out:List Int) (K:D→Prop):runS (En Tryz.f51) (fi Tryz.f51 K) (nTmbs out) nolv 200 [.code [1,1,1]] ⟨[(3,L out 1 I')],hT1⟩ =
 (PQ PP 81 [L out 1 I'] (L (norI (List.map ptF out)) 2 Iv.d)∧K (L (norI (List.map ptF out)) 2 Iv.d)):=by kernel_rfl
theorem F22:OkF 22 Tryz.f22:=⟨by kernel_rfl,by kernel_rfl,by kernel_rfl⟩
def lv22:List (List Nat × List Nat):=[([1,1,0,1,0],[3,8,9,10])]
noncomputable def nFis:List Nat→Nat→Option Ans:=scrAt []
theorem nFi (K:D→Prop):runS (En Tryz.f22) (fi Tryz.f22 K) (nFis ) lv22 200 [.code []] ⟨argSlots 0 [nilIv],.empty⟩ =
 (0≤lenM→At (En Tryz.f22) (fi Tryz.f22 K) [It.code [1,1,0,1,0],It.blk 0,It.code [1,1,1]] {sl:=[(3,I (-1)),(8,.list 0 0 (fun _=>D.junk) .full),(9,I (↑0:Int)),(10,I 0)],h:=Heap.empty:St}):=by kernel_rfl
def SFi:St:=⟨[(3,I (-1)),(8,nilIv),(9,I 0),(10,I 0)],.empty⟩
noncomputable def nFias:List Nat→Nat→Option Ans:=scrAt []
theorem nFia (J:St→Prop) (K:D→Prop):runS (En Tryz.f22) (fi Tryz.f22 K) (nFias ) lv22 200 [.code [1,1,0,1,0,0],stp [3,8,9,10] J,.blk 0,.code [1,1,1]] (SFi) =
 (K (I (-1))):=by kernel_rfl
abbrev rowM (w:Wv) (lim c:Int):Row:= .lit [L w.sig 3 Sig.d,L w.gap 2 Iv.d,I w.fin,I lim,I c]
def hM2 (v:Wv) (l c:Int) (w:Wv) (m d:Int):Heap:=⟨upd (upd (fun _=>none) 0 (some (.lit [L v.sig 3 Sig.d,L v.gap 2 Iv.d,I v.fin,I l,I c]))) 1 (some (.lit [L w.sig 3 Sig.d,L w.gap 2 Iv.d,I w.fin,I m,I d])),2,fun _=>none,0,fun _=>none⟩
abbrev mem1:D:= .iface 36 (.bp 1 0)
theorem eKi (w:Wv) (lim c sig:Int):Does PP 206 [.bp 0 0,I sig] (hM w lim c) (.tup [I (kindR w lim c sig).1,I (kindR w lim c sig).2.1,I (kindR w lim c sig).2.2]) (hM w lim (addI .i64 c 1)):=e206 w lim c sig
def tmI (l:List Chg):List Iv:=norI (l.map fun x=>ptF x.time)
theorem F30:OkF 30 Tryz.f30:=⟨by kernel_rfl,by kernel_rfl,by kernel_rfl⟩
def lv30:List (List Nat × List Nat):=[([1,1,1,1,1],[4,5,14,16])]
noncomputable def nEvs (v:Wv) (w:Wv) (l:Int) (c:Int) (m:Int) (d:Int) (i:Int) (k:Int) (e:Int):List Nat→Nat→Option Ans:=scrAt [([1,0],3,Ans.eff (ren (rnm [0] 2) (rnm [] 0) (.tup [L (winR v l c i 0 e).fst 2 Chg.d,I (winR v l c i 0 e).snd])) (frameH [0] [] (hM2 v l c w m d) (hM v l (addI .i64 c 1)))),([1,1,1,0],3,Ans.eff (ren (rnm [1] 2) (rnm [] 0) (.tup [L (winR w m d k 0 e).fst 2 Chg.d,I (winR w m d k 0 e).snd])) (frameH [1] [] {box:=upd ((hM2 v l c w m d).box) 0 (some (rowM v l (addI .i64 c 1))),nl:=2,hw:=fun _=>none,nt:=0,vw:=fun _=>none:Heap} (hM w m (addI .i64 d 1))))]
theorem nEv (v w:Wv) (l c m d i k most e:Int) (K:D→Heap→Prop):runS (En Tryz.f30) (fh Tryz.f30 K) (nEvs v w l c m d i k e) lv30 200 [.code []] ⟨argSlots 0 [memD,I i,mem1,I k,I most,I e],hM2 v l c w m d⟩ =
 (Does PP 209 [D.bp 0 0,I i,I 0,I e] (hM2 v l c w m d) (ren (rnm [0] 2) (rnm [] 0) (.tup [L (winR v l c i 0 e).fst 2 Chg.d,I (winR v l c i 0 e).snd])) (frameH [0] [] (hM2 v l c w m d) (hM v l (addI .i64 c 1))) ∧
 bif (winR v l c i 0 e).snd !=0 then K (.tup [.list 0 0 (fun _=>D.junk) .full,I (winR v l c i 0 e).snd]) {box:=upd ((hM2 v l c w m d).box) 0 (some (rowM v l (addI .i64 c 1))),nl:=2,hw:=fun _=>none,nt:=0,vw:=fun _=>none:Heap}
 else
  Does PP 209 [D.bp 1 0,I k,I 0,I e] {box:=upd ((hM2 v l c w m d).box) 0 (some (rowM v l (addI .i64 c 1))),nl:=2,hw:=fun _=>none,nt:=0,vw:=fun _=>none:Heap} (ren (rnm [1] 2) (rnm [] 0) (.tup [L (winR w m d k 0 e).fst 2 Chg.d,I (winR w m d k 0 e).snd])) (frameH [1] [] {box:=upd ((hM2 v l c w m d).box) 0 (some (rowM v l (addI .i64 c 1))),nl:=2,hw:=fun _=>none,nt:=0,vw:=fun _=>none:Heap} (hM w m (addI .i64 d 1))) ∧
   bif (winR w m d k 0 e).snd !=0 then K (.tup [.list 0 0 (fun _=>D.junk) .full,I (winR w m d k 0 e).snd]) {box:=upd (upd ((hM2 v l c w m d).box) 0 (some (rowM v l (addI .i64 c 1)))) 1 (some (rowM w m (addI .i64 d 1))),nl:=2,hw:=fun _=>none,nt:=0,vw:=fun _=>none:Heap} else At (En Tryz.f30) (fh Tryz.f30 K) [It.code [1,1,1,1,1]] {sl:=[(4,I most),(5,I e),(14,L (winR v l c i 0 e).fst 2 Chg.d),(16,L (winR w m d k 0 e).fst 2 Chg.d)],h:={box:=upd (upd ((hM2 v l c w m d).box) 0 (some (rowM v l (addI .i64 c 1)))) 1 (some (rowM w m (addI .i64 d 1))),nl:=2,hw:=fun _=>none,nt:=0,vw:=fun _=>none:Heap}:St}):=by kernel_rfl
theorem F31:OkF 31 Tryz.f31:=⟨by kernel_rfl,by kernel_rfl,by kernel_rfl⟩
def lv31:List (List Nat × List Nat):=[([1,1,1,1,1],[0,1,5,10,14,16])]
noncomputable def nVas (v:Wv) (w:Wv) (l:Int) (c:Int) (m:Int) (d:Int) (i:Int) (k:Int) (e:Int):List Nat→Nat→Option Ans:=scrAt [([1,0],3,Ans.eff (ren (rnm [0] 2) (rnm [] 0) (.tup [L (ofR v l c i 0 e).fst 3 Sp.d,I (ofR v l c i 0 e).snd.fst])) (frameH [0] [] (hM2 v l c w m d) (hM v l (ofR v l c i 0 e).snd.snd))),([1,1,1,0],3,Ans.eff (ren (rnm [1] 2) (rnm [] 0) (.tup [L (ofR w m d k 0 e).fst 3 Sp.d,I (ofR w m d k 0 e).snd.fst])) (frameH [1] [] {box:=upd ((hM2 v l c w m d).box) 0 (some (rowM v l (ofR v l c i 0 e).snd.snd)),nl:=2,hw:=fun _=>none,nt:=0,vw:=fun _=>none:Heap} (hM w m (ofR w m d k 0 e).snd.snd)))]
theorem nVa (v w:Wv) (l c m d i k e:Int) (t:Tol) (K:D→Heap→Prop):runS (En Tryz.f31) (fh Tryz.f31 K) (nVas v w l c m d i k e) lv31 200 [.code []] ⟨argSlots 0 [memD,I i,mem1,I k,t.d,I e],hM2 v l c w m d⟩ =
 (Does PP 54 [D.iface 36 (D.bp 0 0),I i,I 0,I e] (hM2 v l c w m d) (ren (rnm [0] 2) (rnm [] 0) (.tup [L (ofR v l c i 0 e).fst 3 Sp.d,I (ofR v l c i 0 e).snd.fst])) (frameH [0] [] (hM2 v l c w m d) (hM v l (ofR v l c i 0 e).snd.snd)) ∧
 bif (ofR v l c i 0 e).snd.fst !=0 then K (.tup [.list 0 0 (fun _=>D.junk) .full,I (ofR v l c i 0 e).snd.fst]) {box:=upd ((hM2 v l c w m d).box) 0 (some (rowM v l (ofR v l c i 0 e).snd.snd)),nl:=2,hw:=fun _=>none,nt:=0,vw:=fun _=>none:Heap}
 else
  Does PP 54 [D.iface 36 (D.bp 1 0),I k,I 0,I e] {box:=upd ((hM2 v l c w m d).box) 0 (some (rowM v l (ofR v l c i 0 e).snd.snd)),nl:=2,hw:=fun _=>none,nt:=0,vw:=fun _=>none:Heap} (ren (rnm [1] 2) (rnm [] 0) (.tup [L (ofR w m d k 0 e).fst 3 Sp.d,I (ofR w m d k 0 e).snd.fst])) (frameH [1] [] {box:=upd ((hM2 v l c w m d).box) 0 (some (rowM v l (ofR v l c i 0 e).snd.snd)),nl:=2,hw:=fun _=>none,nt:=0,vw:=fun _=>none:Heap} (hM w m (ofR w m d k 0 e).snd.snd)) ∧
   bif (ofR w m d k 0 e).snd.fst !=0 then K (.tup [.list 0 0 (fun _=>D.junk) .full,I (ofR w m d k 0 e).snd.fst]) {box:=upd (upd ((hM2 v l c w m d).box) 0 (some (rowM v l (ofR v l c i 0 e).snd.snd))) 1 (some (rowM w m (ofR w m d k 0 e).snd.snd)),nl:=2,hw:=fun _=>none,nt:=0,vw:=fun _=>none:Heap} else At (En Tryz.f31) (fh Tryz.f31 K) [It.code [1,1,1,1,1]] {sl:=[(0,memD),(1,I i),(5,I e),(10,.own [I t.time,.str t.val,B t.unk]),(14,L (ofR v l c i 0 e).fst 3 Sp.d),(16,L (ofR w m d k 0 e).fst 3 Sp.d)],h:={box:=upd (upd ((hM2 v l c w m d).box) 0 (some (rowM v l (ofR v l c i 0 e).snd.snd))) 1 (some (rowM w m (ofR w m d k 0 e).snd.snd)),nl:=2,hw:=fun _=>none,nt:=0,vw:=fun _=>none:Heap}:St}):=by kernel_rfl
noncomputable def nEvbs (most:Int) (e:Int) (x:List Chg) (y:List Chg):List Nat→Nat→Option Ans:=scrAt [([1,1,1,1,1,0],1,Ans.pure [L x 2 Chg.d] (L (tmI x) 2 Iv.d)),([1,1,1,1,1,0],3,Ans.pure [L y 2 Chg.d] (L (tmI y) 2 Iv.d)),([1,1,1,1,1,1,0],6,Ans.pure [L (tmI y) 2 Iv.d,I (subI .i64 0 most),I most,I 0,I e] (L (grwI (tmI y) (subI .i64 0 most) most 0 e) 2 Iv.d)),([1,1,1,1,1,1,0],7,Ans.pure [L (tmI x) 2 Iv.d,L (grwI (tmI y) (subI .i64 0 most) most 0 e) 2 Iv.d] (L (cmR 2 (tmI x) (grwI (tmI y) (subI .i64 0 most) most 0 e)) 2 Iv.d)),([1,1,1,1,1,1,0],14,Ans.pure [L (tmI x) 2 Iv.d,I (subI .i64 0 most),I most,I 0,I e] (L (grwI (tmI x) (subI .i64 0 most) most 0 e) 2 Iv.d)),([1,1,1,1,1,1,0],15,Ans.pure [L (tmI y) 2 Iv.d,L (grwI (tmI x) (subI .i64 0 most) most 0 e) 2 Iv.d] (L (cmR 2 (tmI y) (grwI (tmI x) (subI .i64 0 most) most 0 e)) 2 Iv.d)),([1,1,1,1,1,1,0],16,Ans.pure [L (cmR 2 (tmI x) (grwI (tmI y) (subI .i64 0 most) most 0 e)) 2 Iv.d,L (cmR 2 (tmI y) (grwI (tmI x) (subI .i64 0 most) most 0 e)) 2 Iv.d] (L (cmR 0 (cmR 2 (tmI x) (grwI (tmI y) (subI .i64 0 most) most 0 e)) (cmR 2 (tmI y) (grwI (tmI x) (subI .i64 0 most) most 0 e))) 2 Iv.d))]
theorem nEvb (v w:Wv) (l c m d most e:Int) (x y:List Chg) (K:D→Heap→Prop):runS (En Tryz.f30) (fh Tryz.f30 K) (nEvbs most e x y) nolv 200 [.code [1,1,1,1,1]] ⟨[(4,I most),(5,I e),(14,L x 2 Chg.d),(16,L y 2 Chg.d)],hM2 v l c w m d⟩ =
 (PQ PP 51 [L x 2 Chg.d] (L (tmI x) 2 Iv.d) ∧
 PQ PP 51 [L y 2 Chg.d] (L (tmI y) 2 Iv.d) ∧
  PQ PP 53 [L (tmI y) 2 Iv.d,I (subI .i64 0 most),I most,I 0,I e] (L (grwI (tmI y) (subI .i64 0 most) most 0 e) 2 Iv.d)∧PQ PP 17 [L (tmI x) 2 Iv.d,L (grwI (tmI y) (subI .i64 0 most) most 0 e) 2 Iv.d] (L (cmR 2 (tmI x) (grwI (tmI y) (subI .i64 0 most) most 0 e)) 2 Iv.d)∧PQ PP 53 [L (tmI x) 2 Iv.d,I (subI .i64 0 most),I most,I 0,I e] (L (grwI (tmI x) (subI .i64 0 most) most 0 e) 2 Iv.d)∧PQ PP 17 [L (tmI y) 2 Iv.d,L (grwI (tmI x) (subI .i64 0 most) most 0 e) 2 Iv.d] (L (cmR 2 (tmI y) (grwI (tmI x) (subI .i64 0 most) most 0 e)) 2 Iv.d)∧PQ PP 52 [L (cmR 2 (tmI x) (grwI (tmI y) (subI .i64 0 most) most 0 e)) 2 Iv.d,L (cmR 2 (tmI y) (grwI (tmI x) (subI .i64 0 most) most 0 e)) 2 Iv.d] (L (cmR 0 (cmR 2 (tmI x) (grwI (tmI y) (subI .i64 0 most) most 0 e)) (cmR 2 (tmI y) (grwI (tmI x) (subI .i64 0 most) most 0 e))) 2 Iv.d)∧K (.tup [L (cmR 0 (cmR 2 (tmI x) (grwI (tmI y) (subI .i64 0 most) most 0 e)) (cmR 2 (tmI y) (grwI (tmI x) (subI .i64 0 most) most 0 e))) 2 Iv.d,I 0]) (hM2 v l c w m d)):=by kernel_rfl
noncomputable def nVabs (v:Wv) (w:Wv) (l:Int) (c:Int) (m:Int) (d:Int) (i:Int) (e:Int) (tm:Int) (tv:Str) (tu:Bool) (x:List Sp) (y:List Sp):List Nat→Nat→Option Ans:=scrAt [([1,1,1,1,1,0],2,Ans.eff (ren (rnm [0] 2) (rnm [] 0) (.tup [I (kindR v l c i).fst,I (kindR v l c i).snd.fst,I (kindR v l c i).snd.snd])) (frameH [0] [] (hM2 v l c w m d) (hM v l (addI .i64 c 1)))),([1,1,1,1,1,1,1,0],7,Ans.eff (ren (rnm [2] 3) (rnm [] 0) (.tup [L (spI (kindR v l c i).fst ⟨tm,tv,tu⟩ x y e) 2 Iv.d,I 0])) (frameH [2] [] {box:=upd (upd ((hM2 v l c w m d).box) 0 (some (rowM v l (addI .i64 c 1)))) 2 (some (Row.map KK.ss (fun x=>false) (mvNew (ofVal (Value.bool false))))),nl:=3,hw:=fun _=>none,nt:=0,vw:=fun _=>none:Heap} heapSp0))]
theorem nVab (v w:Wv) (l c m d i e tm:Int) (tv:Str) (tu:Bool) (x y:List Sp) (K:D→Heap→Prop):runS (En Tryz.f31) (fh Tryz.f31 K) (nVabs v w l c m d i e tm tv tu x y) nolv 200 [.code [1,1,1,1,1]] ⟨[(0,memD),(1,I i),(5,I e),(10,.own [I tm,.str tv,B tu]),(14,L x 3 Sp.d),(16,L y 3 Sp.d)],hM2 v l c w m d⟩ =
 (Does PP 206 [D.bp 0 0,I i] (hM2 v l c w m d) (ren (rnm [0] 2) (rnm [] 0) (.tup [I (kindR v l c i).fst,I (kindR v l c i).snd.fst,I (kindR v l c i).snd.snd])) (frameH [0] [] (hM2 v l c w m d) (hM v l (addI .i64 c 1))) ∧
 bif (kindR v l c i).snd.snd !=0 then K (.tup [.list 0 0 (fun _=>D.junk) .full,I (kindR v l c i).snd.snd]) {box:=upd ((hM2 v l c w m d).box) 0 (some (rowM v l (addI .i64 c 1))),nl:=2,hw:=fun _=>none,nt:=0,vw:=fun _=>none:Heap}
 else
  True ∧
   Does PP 55 [.agg [I (kindR v l c i).fst,I tm,.str tv,B tu,D.mp 2],L x 3 Sp.d,L y 3 Sp.d,I e] {box:=upd (upd ((hM2 v l c w m d).box) 0 (some (rowM v l (addI .i64 c 1)))) 2 (some (Row.map KK.ss (fun x=>false) (mvNew (ofVal (Value.bool false))))),nl:=3,hw:=fun _=>none,nt:=0,vw:=fun _=>none:Heap} (ren (rnm [2] 3) (rnm [] 0) (.tup [L (spI (kindR v l c i).fst ⟨tm,tv,tu⟩ x y e) 2 Iv.d,I 0])) (frameH [2] [] {box:=upd (upd ((hM2 v l c w m d).box) 0 (some (rowM v l (addI .i64 c 1)))) 2 (some (Row.map KK.ss (fun x=>false) (mvNew (ofVal (Value.bool false))))),nl:=3,hw:=fun _=>none,nt:=0,vw:=fun _=>none:Heap} heapSp0) ∧
    K (.tup [L (spI (kindR v l c i).fst ⟨tm,tv,tu⟩ x y e) 2 Iv.d,I 0]) {box:=upd (upd (upd ((hM2 v l c w m d).box) 0 (some (rowM v l (addI .i64 c 1)))) 2 (some (Row.map KK.ss (fun x=>false) (mvNew (ofVal (Value.bool false)))))) 2 none,nl:=3,hw:=fun _=>none,nt:=0,vw:=fun _=>none:Heap}):=by kernel_rfl
def evI (most e:Int) (x y:List Chg):List Iv:=cmR 0 (cmR 2 (tmI x) (grwI (tmI y) (subI .i64 0 most) most 0 e)) (cmR 2 (tmI y) (grwI (tmI x) (subI .i64 0 most) most 0 e))
structure Sg where (out:List Iv) (err c d:Int) deriving Inhabited
def Sg.d' (x:Sg):D:= .tup [L x.out 2 Iv.d,I x.err]
def evR (v:Wv) (l c:Int) (w:Wv) (m d i k most e:Int):Sg :=
 bif (winR v l c i 0 e).2 !=0 then ⟨[],(winR v l c i 0 e).2,addI .i64 c 1,d⟩ else
  bif (winR w m d k 0 e).2 !=0 then ⟨[],(winR w m d k 0 e).2,addI .i64 c 1,addI .i64 d 1⟩ else
   ⟨evI most e (winR v l c i 0 e).1 (winR w m d k 0 e).1,0,addI .i64 c 1,addI .i64 d 1⟩
def vaR (v:Wv) (l c:Int) (w:Wv) (m d i k:Int) (t:Tol) (e:Int):Sg :=
 bif (ofR v l c i 0 e).2.1 !=0 then ⟨[],(ofR v l c i 0 e).2.1,(ofR v l c i 0 e).2.2,d⟩ else
  bif (ofR w m d k 0 e).2.1 !=0 then ⟨[],(ofR w m d k 0 e).2.1,(ofR v l c i 0 e).2.2,(ofR w m d k 0 e).2.2⟩ else
   bif (kindR v l (ofR v l c i 0 e).2.2 i).2.2 !=0 then ⟨[],(kindR v l (ofR v l c i 0 e).2.2 i).2.2,addI .i64 (ofR v l c i 0 e).2.2 1,(ofR w m d k 0 e).2.2⟩ else
    ⟨spI (kindR v l (ofR v l c i 0 e).2.2 i).1 t (ofR v l c i 0 e).1 (ofR w m d k 0 e).1 e,0,addI .i64 (ofR v l c i 0 e).2.2 1,(ofR w m d k 0 e).2.2⟩
theorem eEn (w:Wv) (lim c:Int):Does PP 205 [.bp 0 0] (hM w lim c) (I w.fin) (hM w lim c):=e205 w lim c
theorem F13:OkF 13 Tryz.f13:=⟨by kernel_rfl,by kernel_rfl,by kernel_rfl⟩
def lv13:List (List Nat × List Nat):=[([1,1,1,1,1,1],[0,1,2,3,9,12,13,14,15,16,17]),([1,1,1,1,1,1,1],[0,1,2,3,9,12,17]),([1,1,1,1,1,1,1,1,1],[14,18])]
noncomputable def nSgs (v:Wv) (w:Wv) (l:Int) (c:Int) (m:Int) (d:Int) (i:Int) (k:Int) (t:Tol):List Nat→Nat→Option Ans:=scrAt [([1,0,0],1,Ans.pure [t.d] (B (tolB t))),([1,1,0],2,Ans.eff (ren (rnm [0] 2) (rnm [] 0) (.tup [I (kindR v l c i).fst,I (kindR v l c i).snd.fst,I (kindR v l c i).snd.snd])) (frameH [0] [] (hM2 v l c w m d) (hM v l (addI .i64 c 1)))),([1,1,1,1,0],2,Ans.eff (ren (rnm [1] 2) (rnm [] 0) (.tup [I (kindR w m d k).fst,I (kindR w m d k).snd.fst,I (kindR w m d k).snd.snd])) (frameH [1] [] {box:=upd ((hM2 v l c w m d).box) 0 (some (rowM v l (addI .i64 c 1))),nl:=2,hw:=fun _=>none,nt:=0,vw:=fun _=>none:Heap} (hM w m (addI .i64 d 1)))),
 ([1,1,1,1,1,0],1,Ans.eff (ren (rnm [0] 2) (rnm [] 0) (I v.fin)) (frameH [0] [] {box:=upd (upd ((hM2 v l c w m d).box) 0 (some (rowM v l (addI .i64 c 1)))) 1 (some (rowM w m (addI .i64 d 1))),nl:=2,hw:=fun _=>none,nt:=0,vw:=fun _=>none:Heap} (hM v l (addI .i64 c 1)))),([1,1,1,1,1,0],3,Ans.eff (ren (rnm [1] 2) (rnm [] 0) (I w.fin)) (frameH [1] [] {box:=upd (upd (upd ((hM2 v l c w m d).box) 0 (some (rowM v l (addI .i64 c 1)))) 1 (some (rowM w m (addI .i64 d 1)))) 0 (some (rowM v l (addI .i64 c 1))),nl:=2,hw:=fun _=>none,nt:=0,vw:=fun _=>none:Heap} (hM w m (addI .i64 d 1))))]
theorem nSg (v w:Wv) (l c m d i k:Int) (t:Tol) (K:D→Heap→Prop):runS (En Tryz.f13) (fh Tryz.f13 K) (nSgs v w l c m d i k t) lv13 200 [.code []] ⟨argSlots 0 [memD,I i,mem1,I k,t.d],hM2 v l c w m d⟩ =
 (PQ PP 23 [t.d] (B (tolB t)) ∧
 bif !tolB t then K (.tup [.list 0 0 (fun _=>D.junk) .full,I 1]) (hM2 v l c w m d)
 else
  Does PP 206 [D.bp 0 0,I i] (hM2 v l c w m d) (ren (rnm [0] 2) (rnm [] 0) (.tup [I (kindR v l c i).fst,I (kindR v l c i).snd.fst,I (kindR v l c i).snd.snd])) (frameH [0] [] (hM2 v l c w m d) (hM v l (addI .i64 c 1))) ∧
   bif (kindR v l c i).snd.snd !=0 then K (.tup [.list 0 0 (fun _=>D.junk) .full,I (kindR v l c i).snd.snd]) {box:=upd ((hM2 v l c w m d).box) 0 (some (rowM v l (addI .i64 c 1))),nl:=2,hw:=fun _=>none,nt:=0,vw:=fun _=>none:Heap}
   else
    Does PP 206 [D.bp 1 0,I k] {box:=upd ((hM2 v l c w m d).box) 0 (some (rowM v l (addI .i64 c 1))),nl:=2,hw:=fun _=>none,nt:=0,vw:=fun _=>none:Heap} (ren (rnm [1] 2) (rnm [] 0) (.tup [I (kindR w m d k).fst,I (kindR w m d k).snd.fst,I (kindR w m d k).snd.snd])) (frameH [1] [] {box:=upd ((hM2 v l c w m d).box) 0 (some (rowM v l (addI .i64 c 1))),nl:=2,hw:=fun _=>none,nt:=0,vw:=fun _=>none:Heap} (hM w m (addI .i64 d 1))) ∧
     Does PP 205 [D.bp 0 0] {box:=upd (upd ((hM2 v l c w m d).box) 0 (some (rowM v l (addI .i64 c 1)))) 1 (some (rowM w m (addI .i64 d 1))),nl:=2,hw:=fun _=>none,nt:=0,vw:=fun _=>none:Heap} (ren (rnm [0] 2) (rnm [] 0) (I v.fin)) (frameH [0] [] {box:=upd (upd ((hM2 v l c w m d).box) 0 (some (rowM v l (addI .i64 c 1)))) 1 (some (rowM w m (addI .i64 d 1))),nl:=2,hw:=fun _=>none,nt:=0,vw:=fun _=>none:Heap} (hM v l (addI .i64 c 1))) ∧
      Does PP 205 [D.bp 1 0] {box:=upd (upd (upd ((hM2 v l c w m d).box) 0 (some (rowM v l (addI .i64 c 1)))) 1 (some (rowM w m (addI .i64 d 1)))) 0 (some (rowM v l (addI .i64 c 1))),nl:=2,hw:=fun _=>none,nt:=0,vw:=fun _=>none:Heap} (ren (rnm [1] 2) (rnm [] 0) (I w.fin)) (frameH [1] [] {box:=upd (upd (upd ((hM2 v l c w m d).box) 0 (some (rowM v l (addI .i64 c 1)))) 1 (some (rowM w m (addI .i64 d 1)))) 0 (some (rowM v l (addI .i64 c 1))),nl:=2,hw:=fun _=>none,nt:=0,vw:=fun _=>none:Heap} (hM w m (addI .i64 d 1))) ∧
       At (En Tryz.f13) (fh Tryz.f13 K) [It.code [1,1,1,1,1,1]] {sl:=[(0,memD),(1,I i),(2,mem1),(3,I k),(9,.own [I t.time,.str t.val,B t.unk]),(12,I (kindR v l c i).fst),(13,I (kindR v l c i).snd.fst),(14,I (kindR w m d k).snd.snd),(15,I (kindR w m d k).fst),(16,I (kindR w m d k).snd.fst),(17,I (if w.fin < v.fin then w.fin else v.fin))],h:={box:=upd (upd (upd (upd ((hM2 v l c w m d).box) 0 (some (rowM v l (addI .i64 c 1)))) 1 (some (rowM w m (addI .i64 d 1)))) 0 (some (rowM v l (addI .i64 c 1)))) 1 (some (rowM w m (addI .i64 d 1))),nl:=2,hw:=fun _=>none,nt:=0,vw:=fun _=>none:Heap}:St}):=by kernel_rfl
def lvSg1:List (List Nat × List Nat):=[([1,1,1,1,1,1,1],[0,1,2,3,9,12,17])]
noncomputable def nSgbs:List Nat→Nat→Option Ans:=scrAt []
theorem nSgb (v w:Wv) (l c m d i k tm:Int) (tv:Str) (tu:Bool) (k1 w1 e2 k2 w2 en:Int) (K:D→Heap→Prop):runS (En Tryz.f13) (fh Tryz.f13 K) (nSgbs ) lvSg1 200 [.code [1,1,1,1,1,1]] ⟨[(0,memD),(1,I i),(2,mem1),(3,I k),(9,.own [I tm,.str tv,B tu]),(12,I k1),(13,I w1),(14,I e2),(15,I k2),(16,I w2),(17,I en)],hM2 v l c w m d⟩ =
 (bif e2 !=0 then K (.tup [.list 0 0 (fun _=>D.junk) .full,I e2]) (hM2 v l c w m d)
 else bif k1 !=k2 then K (.tup [.list 0 0 (fun _=>D.junk) .full,I 7]) (hM2 v l c w m d) else bif w1 !=w2 then K (.tup [.list 0 0 (fun _=>D.junk) .full,I 8]) (hM2 v l c w m d) else bif decide (en < 0) then K (.tup [.list 0 0 (fun _=>D.junk) .full,I 0]) (hM2 v l c w m d) else At (En Tryz.f13) (fh Tryz.f13 K) [It.code [1,1,1,1,1,1,1]] {sl:=[(0,memD),(1,I i),(2,mem1),(3,I k),(9,.own [I tm,.str tv,B tu]),(12,I k1),(17,I en)],h:=(hM2 v l c w m d):St}):=by kernel_rfl
def lvSg2:List (List Nat × List Nat):=[([1,1,1,1,1,1,1,1,1],[14,18])]
noncomputable def nSgcs (v:Wv) (w:Wv) (l:Int) (c:Int) (m:Int) (d:Int) (i:Int) (k:Int) (tm:Int) (tv:Str) (tu:Bool) (en:Int):List Nat→Nat→Option Ans:=scrAt [([1,1,1,1,1,1,1,1,0,1,0],7,Ans.eff (.tup [L (evR v l c w m d i k tm en).out 2 Iv.d,I (evR v l c w m d i k tm en).err]) (hM2 v l (evR v l c w m d i k tm en).c w m (evR v l c w m d i k tm en).d)),([1,1,1,1,1,1,1,1,0,1,1],6,Ans.eff (.tup [L (vaR v l c w m d i k ⟨tm,tv,tu⟩ en).out 2 Iv.d,I (vaR v l c w m d i k ⟨tm,tv,tu⟩ en).err]) (hM2 v l (vaR v l c w m d i k ⟨tm,tv,tu⟩ en).c w m (vaR v l c w m d i k ⟨tm,tv,tu⟩ en).d))]
theorem nSgc (v w:Wv) (l c m d i k tm:Int) (tv:Str) (tu:Bool) (k1 en:Int) (K:D→Heap→Prop):runS (En Tryz.f13) (fh Tryz.f13 K) (nSgcs v w l c m d i k tm tv tu en) lvSg2 200 [.code [1,1,1,1,1,1,1]] ⟨[(0,memD),(1,I i),(2,mem1),(3,I k),(9,.own [I tm,.str tv,B tu]),(12,I k1),(17,I en)],hM2 v l c w m d⟩ =
 (bif k1==3 then Does PP 30 [D.iface 36 (D.bp 0 0),I i,D.iface 36 (D.bp 1 0),I k,I tm,I en] (hM2 v l c w m d) (.tup [L (evR v l c w m d i k tm en).out 2 Iv.d,I (evR v l c w m d i k tm en).err]) (hM2 v l (evR v l c w m d i k tm en).c w m (evR v l c w m d i k tm en).d)∧At (En Tryz.f13) (fh Tryz.f13 K) [It.code [1,1,1,1,1,1,1,1,1]] {sl:=[(14,I (evR v l c w m d i k tm en).err),(18,L (evR v l c w m d i k tm en).out 2 Iv.d)],h:={box:=upd (upd (fun _=>none) 0 (some (rowM v l (evR v l c w m d i k tm en).c))) 1 (some (rowM w m (evR v l c w m d i k tm en).d)),nl:=2,hw:=fun _=>none,nt:=0,vw:=fun _=>none:Heap}:St}
 else Does PP 31 [D.iface 36 (D.bp 0 0),I i,D.iface 36 (D.bp 1 0),I k,.agg [I tm,.str tv,B tu],I en] (hM2 v l c w m d) (.tup [L (vaR v l c w m d i k ⟨tm,tv,tu⟩ en).out 2 Iv.d,I (vaR v l c w m d i k ⟨tm,tv,tu⟩ en).err]) (hM2 v l (vaR v l c w m d i k ⟨tm,tv,tu⟩ en).c w m (vaR v l c w m d i k ⟨tm,tv,tu⟩ en).d)∧At (En Tryz.f13) (fh Tryz.f13 K) [It.code [1,1,1,1,1,1,1,1,1]] {sl:=[(14,I (vaR v l c w m d i k ⟨tm,tv,tu⟩ en).err),(18,L (vaR v l c w m d i k ⟨tm,tv,tu⟩ en).out 2 Iv.d)],h:={box:=upd (upd (fun _=>none) 0 (some (rowM v l (vaR v l c w m d i k ⟨tm,tv,tu⟩ en).c))) 1 (some (rowM w m (vaR v l c w m d i k ⟨tm,tv,tu⟩ en).d)),nl:=2,hw:=fun _=>none,nt:=0,vw:=fun _=>none:Heap}:St}):=by kernel_rfl
noncomputable def nSgds:List Nat→Nat→Option Ans:=scrAt []
theorem nSgd (v w:Wv) (l c m d er:Int) (out:List Iv) (K:D→Heap→Prop):runS (En Tryz.f13) (fh Tryz.f13 K) (nSgds ) nolv 200 [.code [1,1,1,1,1,1,1,1,1]] ⟨[(14,I er),(18,L out 2 Iv.d)],hM2 v l c w m d⟩ =
 (bif er !=0 then K (.tup [.list 0 0 (fun _=>D.junk) .full,I er]) (hM2 v l c w m d) else out.length≤lenM→bif decide ((↑out.length:Int) > 4096) then K (.tup [.list 0 0 (fun _=>D.junk) .full,I 9]) (hM2 v l c w m d) else K (.tup [L out 2 Iv.d,I 0]) (hM2 v l c w m d)):=by kernel_rfl
end Go.Proofs.YtiekphbkomddfaaGreatDoor.S1
namespace Go.Proofs.YtiekphbkomddfaaGreatDoor.S1
open Go Go.Ab Go.Proofs
-- nolay
attribute [local instance] LT10
theorem c51 (l:List Chg) (hb:l.length≤10000):Pure PP 51 [L l 2 Chg.d] (L (tmI l) 2 Iv.d):=by
 refine pu F51 (by kernel_rfl) (of_eq (nTm l _) fun hlm=> ?_)
 refine at_le (st':=STm l ((l.take 0).map Chg.time) ((0:Nat):Int)) ?_ ((StLe.idle _ none 3 1 (fun i=>I' (([]:List Int).getD i default)) rfl).cast (by kernel_rfl))
 refine lp (fn:=Tryz.f51) (fun i:Nat=>i≤l.length) (fun i=>STm l ((l.take i).map Chg.time) i) (fun i=>l.length - i) [3,6,7,8] (by kernel_rfl) (fun i hi=>of_eq (nTma l _ i _ _) (cond_intro (fun hlt=> ?_) fun hge=> ?_)) 0 (Nat.zero_le _)
 ·have hlt:=ltI hlt
  have ht:((l.take i).map Chg.time).length=i:=by rw [List.length_map,List.length_take]; omega
  rw [add1 hlt hlm,Int.toNat_natCast]
  refine ⟨⟨by omega,by omega⟩,trivial,⟨upd_same _ _ _,by rw [ht]; unfold roomM; omega⟩,Nx.of (i+1) hlt (by omega) ?_⟩
  rw [take_snoc _ _ hlt,List.map_append,List.map_singleton]
  generalize (l.take i).map Chg.time=out
  unfold STm hN
  rw [List.length_append,List.length_singleton,upd_upd]
  exact (StLe.set 3 rfl (Wk.snoc (enc:=I') (x:=(l.getD i default).time)) rfl rfl).cast (by kernel_rfl)
 ·rw [List.take_of_length_le (geI hge)]
  have hml:(l.map Chg.time).length≤10000:=by rw [List.length_map]; omega
  have e:tmI l=norI ((l.map Chg.time).map ptF):=by unfold tmI; rw [List.map_map]; rfl
  rw [e]
  refine at_le (st':=⟨[(3,L (l.map Chg.time) 1 I')],hT1⟩) (runS_sound hmix _ _ _ (of_eq (nTmb _ _) ⟨PureW.mk (c81 _ hml),Wk.refl _⟩)) ?_
  exact ((StLe.set 3 (d':=L (l.map Chg.time) 1 I') rfl Wk.tokL rfl rfl).trans (StLe.heapLe heap_e)).cast (by kernel_rfl)
theorem c220:Pure PP 22 [nilIv] (I (-1)):=by
 refine pu F22 (da:=⟨⟨⟨fun i hi=>absurd hi (Nat.not_lt_zero _),fun _ _ h=>by cases h⟩,trivial⟩⟩) (by kernel_rfl) (of_eq (nFi _) fun _=> ?_)
 exact lp (fn:=Tryz.f22) (fun _:Unit=>True) (fun _=>SFi) (fun _=>0) [3,8,9,10] (by kernel_rfl) (fun _ _=>of_eq (nFia _ _) (Wk.refl _)) () trivial
theorem tmI_len (l:List Chg):(tmI l).length≤l.length:=by
 have:=norI_len (l.map fun x=>ptF x.time)
 rw [List.length_map] at this
 exact this
theorem grw_len (l:List Iv) (a b f t:Int):(grwI l a b f t).length≤l.length:=by
 unfold grwI mvI
 cases dlyB a b
 ·exact Nat.zero_le _
 ·have h1:=filt_len ((norI l).map (mvF (subI .i64 0 b) (subI .i64 0 a))) f t
  have h2:=norI_len l
  rw [List.length_map] at h1
  show (iclip _ f t).length≤_
  omega
abbrev WvOk (w:Wv):Prop:=∀ q∈w.sig,q.chg.length≤900∧q.width≤1000000∧Inc (-1) q.chg
theorem WvOk.len {w:Wv} (h:WvOk w) (i:Int):(sigOf w i).chg.length≤900:=by
 unfold sigOf
 rw [List.getD_eq_getElem?_getD]
 cases hg:w.sig[i.toNat]? with
 | none=>exact Nat.zero_le _
 | some q=>exact (h q (List.mem_of_getElem? hg)).1
theorem winR_len {w:Wv} (h:WvOk w) (l c i a b:Int):(winR w l c i a b).1.length≤900:=by
 unfold winR
 split
 ·exact Nat.zero_le _
 ·split
  ·exact Nat.zero_le _
  ·exact Nat.le_trans (List.length_filter_le _ _) (h.len i)
section
variable {v w:Wv} {l c m d c' d':Int}
theorem hB0:upd (hM2 v l c w m d).box 0 (some (rowM v l c'))=(hM2 v l c' w m d).box:=by
 funext k
 rcases k with _ | _ | k <;> rfl
theorem hB1:upd (hM2 v l c w m d).box 1 (some (rowM w m d'))=(hM2 v l c w m d').box:=by
 funext k
 rcases k with _ | _ | k <;> rfl
theorem hB2 {r:Row}:upd (upd (hM2 v l c w m d).box 2 (some r)) 2 none=(hM2 v l c w m d).box:=by
 funext k
 rcases k with _ | _ | _ | k <;> rfl
end
theorem retNI {e:Int} {h:Heap}:RetLe (.tup [.list 0 0 (fun _=> .junk) .full,I e]) h (.tup [L ([]:List Iv) 2 Iv.d,I e]) h:=RetLe.of (Wk.tup (Wks.cons Wk.nilL (Wks.refl _))) (HeapLe.refl _)
theorem e30 {v w:Wv} (hv:WvOk v) (hw:WvOk w) (l c m d i k most e:Int):Does PP 30 [memD,I i,mem1,I k,I most,I e] (hM2 v l c w m d) (.tup [L (evR v l c w m d i k most e).out 2 Iv.d,I (evR v l c w m d i k most e).err]) (hM2 v l (evR v l c w m d i k most e).c w m (evR v l c w m d i k most e).d):=by
 refine du F30 (by kernel_rfl) (of_eq (nEv v w l c m d i k most e _) ⟨fr (e209 v hv l c i 0 e) [0] [],cond_intro (fun h=> ?_) fun h=>⟨fr (e209 w hw m d k 0 e) [1] [],cond_intro (fun h1=> ?_) fun h1=> ?_⟩⟩)
 ·unfold evR
  rw [h,hB0]; exact retNI
 ·unfold evR
  rw [h,h1,hB0,hB1]; exact retNI
 ·unfold evR
  rw [h,h1,hB0,hB1]
  have lx:=winR_len hv l c i 0 e
  have ly:=winR_len hw m d k 0 e
  generalize (winR v l c i 0 e).1=x at *
  generalize (winR w m d k 0 e).1=y at *
  have tx:=tmI_len x
  have ty:=tmI_len y
  have gx:=grw_len (tmI x) (subI .i64 0 most) most 0 e
  have gy:=grw_len (tmI y) (subI .i64 0 most) most 0 e
  have c1:=cmR_len 2 (tmI x) (grwI (tmI y) (subI .i64 0 most) most 0 e)
  have c2:=cmR_len 2 (tmI y) (grwI (tmI x) (subI .i64 0 most) most 0 e)
  exact runS_sound hmix _ _ _ (of_eq (nEvb v w l _ m _ most e x y _) ⟨PureW.mk (c51 x (by omega)),PureW.mk (c51 y (by omega)),PureW.mk (c53 _ _ _ _ _ (by omega)),PureW.mk (c17 _ _ (by omega) (by omega)),PureW.mk (c53 _ _ _ _ _ (by omega)),PureW.mk (c17 _ _ (by omega) (by omega)),PureW.mk (c52 _ _ (by omega) (by omega)),RetLe.refl _ _⟩)
theorem eSpn [HasW] (k tm:Int) (tv:Str) (tu:Bool) (a b:List Sp) (e:Int) (hz:ZipOk a b) (la:a.length≤100) (lb:b.length≤100) (lq:(zipR a b).length≤100):Does PP 55 [.agg [I k,I tm,.str tv,B tu,.mp 0],L a 3 Sp.d,L b 3 Sp.d,I e] ⟨upd (fun _=>none) 0 (some (.map .ss (fun _=>false) (.b fun _=>false))),1,fun _=>none,0,fun _=>none⟩ (.tup [L (spI k ⟨tm,tv,tu⟩ a b e) 2 Iv.d,I 0]) heapSp0:=e55 k ⟨tm,tv,tu⟩ a b e (fun _=>false) hz la lb lq
theorem hM2_le (v:Wv) (l c:Int) (w:Wv) (m d:Int):HeapLe (hM2 v l c w m d) ⟨(hM2 v l c w m d).box,3,fun _=>none,0,fun _=>none⟩:=⟨fun _ row' h=>⟨row',h,RowLe.refl _⟩,by show 2≤3; omega,fun _ _ h=>h,Nat.le_refl _,fun _ _ _=>VwLe.refl _ _,fun _ h=>h⟩
theorem hM2_low (v:Wv) (l c:Int) (w:Wv) (m d:Int) (nl nt:Nat):LowH 2 0 ⟨(hM2 v l c w m d).box,nl,fun _=>none,nt,fun _=>none⟩:=by
 refine ⟨fun k row e=> ?_,fun t n e=>(by cases e),fun _ _=>rfl,fun t n f e=>(by cases e)⟩
 rcases k with _ | _ | k
 ·cases e
  exact ⟨by omega,⟨fun i _=>(inferInstance:DD (Sig.d (v.sig.getD i default))).p,fun i _=>(inferInstance:DD (Iv.d (v.gap.getD i default))).p,trivial,trivial,trivial,trivial⟩,rfl⟩
 ·cases e
  exact ⟨by omega,⟨fun i _=>(inferInstance:DD (Sig.d (w.sig.getD i default))).p,fun i _=>(inferInstance:DD (Iv.d (w.gap.getD i default))).p,trivial,trivial,trivial,trivial⟩,rfl⟩
 ·cases e
structure ZipL (a b:List Sp):Prop where
 z:ZipOk a b
 la:a.length≤100
 lb:b.length≤100
 lq:(zipR a b).length≤100
theorem e31 [HasW] {v w:Wv} (hv:WvOk v) (hw:WvOk w) (l c m d i k:Int) (t:Tol) (e:Int) (hz:(ofR v l c i 0 e).2.1=0→(ofR w m d k 0 e).2.1=0→ZipL (ofR v l c i 0 e).1 (ofR w m d k 0 e).1) :
  Does PP 31 [memD,I i,mem1,I k,t.d,I e] (hM2 v l c w m d) (.tup [L (vaR v l c w m d i k t e).out 2 Iv.d,I (vaR v l c w m d i k t e).err]) (hM2 v l (vaR v l c w m d i k t e).c w m (vaR v l c w m d i k t e).d):=by
 have c0:Does PP 31 [memD,I i,mem1,I k,t.d,I e] (hM2 v l c w m d) (.tup [L (vaR v l c w m d i k t e).out 2 Iv.d,I (vaR v l c w m d i k t e).err]) ⟨(hM2 v l (vaR v l c w m d i k t e).c w m (vaR v l c w m d i k t e).d).box,3,fun _=>none,0,fun _=>none⟩:=by
  refine du F31 (by kernel_rfl) (of_eq (nVa v w l c m d i k e t _) ⟨fr (eOfM v hv l c i 0 e) [0] [],cond_intro (fun h=> ?_) fun h=>⟨fr (eOfM w hw m d k 0 e) [1] [],cond_intro (fun h1=> ?_) fun h1=> ?_⟩⟩)
  ·unfold vaR
   rw [h,hB0]; exact retNI.trans (RetLe.of (Wk.refl _) (hM2_le _ _ _ _ _ _))
  ·unfold vaR
   rw [h,h1,hB0,hB1]; exact retNI.trans (RetLe.of (Wk.refl _) (hM2_le _ _ _ _ _ _))
  ·obtain ⟨z,la,lb,lq⟩:=hz (by simpa using h) (by simpa using h1)
   unfold vaR
   rw [h,h1,hB0,hB1,cond_false,cond_false]
   obtain ⟨tm,tv,tu⟩:=t
   generalize (ofR v l c i 0 e).1=x at *
   generalize (ofR v l c i 0 e).2.2=c1 at *
   generalize (ofR w m d k 0 e).1=y at *
   generalize (ofR w m d k 0 e).2.2=d1 at *
   refine runS_sound hmix _ _ _ (of_eq (nVab v w l c1 m d1 i e tm tv tu x y _) ⟨fr (eKi v l c1 i) [0] [],cond_intro (fun h2=> ?_) fun h2=>⟨trivial,fr (eSpn (kindR v l c1 i).1 tm tv tu x y e z la lb lq) [2] [],?_⟩⟩)
   ·rw [h2,hB0]; exact retNI.trans (RetLe.of (Wk.refl _) (hM2_le _ _ _ _ _ _))
   ·rw [h2,hB0,hB2]; exact RetLe.refl _ _
 exact Does.forget c0 (hM2_low _ _ _ _ _ _ _ _) ⟨fun i _=>(inferInstance:DD (Iv.d ((vaR v l c w m d _ k t e).out.getD i default))).p,trivial,trivial⟩ rfl
end Go.Proofs.YtiekphbkomddfaaGreatDoor.S1
namespace Go.Proofs.YtiekphbkomddfaaGreatDoor.S1
open Go Go.Ab Go.Proofs
-- nolay
attribute [local instance] LT10
def minE (v w:Wv):Int:=if w.fin < v.fin then w.fin else v.fin
def sgE (r:Sg):Sg:=bif r.err !=0 then ⟨[],r.err,r.c,r.d⟩ else bif decide ((r.out.length:Int) > 4096) then ⟨[],9,r.c,r.d⟩ else ⟨r.out,0,r.c,r.d⟩
def sgV (v:Wv) (l c:Int) (w:Wv) (m d i k:Int) (t:Tol) (k1 en:Int):Sg:=bif k1==3 then evR v l c w m d i k t.time en else vaR v l c w m d i k t en
def sgR (v:Wv) (l c:Int) (w:Wv) (m d i k:Int) (t:Tol):Sg :=
 bif !tolB t then ⟨[],1,c,d⟩ else
  bif (kindR v l c i).2.2 !=0 then ⟨[],(kindR v l c i).2.2,addI .i64 c 1,d⟩ else
   bif (kindR w m d k).2.2 !=0 then ⟨[],(kindR w m d k).2.2,addI .i64 c 1,addI .i64 d 1⟩ else
    bif (kindR v l c i).1 !=(kindR w m d k).1 then ⟨[],7,addI .i64 c 1,addI .i64 d 1⟩ else
     bif (kindR v l c i).2.1 !=(kindR w m d k).2.1 then ⟨[],8,addI .i64 c 1,addI .i64 d 1⟩ else
      bif decide (minE v w < 0) then ⟨[],0,addI .i64 c 1,addI .i64 d 1⟩ else
       sgE (sgV v l (addI .i64 c 1) w m (addI .i64 d 1) i k t (kindR v l c i).1 (minE v w))
theorem e13 [HasW] {v w:Wv} (hv:WvOk v) (hw:WvOk w) (l c m d i k:Int) (t:Tol)
  (hz:(kindR v l c i).2.2=0→(kindR w m d k).2.2=0→(kindR v l c i).1=(kindR w m d k).1→0≤minE v w→(kindR v l c i).1≠3→(ofR v l (addI .i64 c 1) i 0 (minE v w)).2.1=0→(ofR w m (addI .i64 d 1) k 0 (minE v w)).2.1=0→ZipL (ofR v l (addI .i64 c 1) i 0 (minE v w)).1 (ofR w m (addI .i64 d 1) k 0 (minE v w)).1) :
  Does PP 13 [memD,I i,mem1,I k,t.d] (hM2 v l c w m d) (.tup [L (sgR v l c w m d i k t).out 2 Iv.d,I (sgR v l c w m d i k t).err]) (hM2 v l (sgR v l c w m d i k t).c w m (sgR v l c w m d i k t).d):=by
 refine du F13 (by kernel_rfl) (of_eq (nSg v w l c m d i k t _) ⟨PureW.mk (c23 t),cond_intro (fun h=> ?_) fun h=>⟨fr (eKi v l c i) [0] [],cond_intro (fun h1=> ?_) fun h1=>⟨fr (eKi w m d k) [1] [],fr (eEn v l (addI .i64 c 1)) [0] [],fr (eEn w m (addI .i64 d 1)) [1] [],?_⟩⟩⟩)
 ·unfold sgR
  rw [h]; exact retNI
 ·unfold sgR
  rw [h,h1,hB0]; exact retNI
 ·unfold sgR
  rw [h,h1,hB0,hB1,hB0,hB1]
  have h1:(kindR v l c i).2.2=0:=by simpa using h1
  change At _ _ [.code [1,1,1,1,1,1]] ⟨[(0,memD),(1,I i),(2,mem1),(3,I k),(9,.own [I t.time,.str t.val,B t.unk]),(12,I (kindR v l c i).1),(13,I (kindR v l c i).2.1),(14,I (kindR w m d k).2.2),(15,I (kindR w m d k).1),(16,I (kindR w m d k).2.1),(17,I (minE v w))],hM2 v l (addI .i64 c 1) w m (addI .i64 d 1)⟩
  have hz:=hz h1
  generalize (kindR v l c i).1=k1 at *
  generalize (kindR v l c i).2.1=w1 at *
  generalize (kindR w m d k).1=k2 at *
  generalize (kindR w m d k).2.1=w2 at *
  generalize (kindR w m d k).2.2=e2 at *
  generalize minE v w=en at *
  generalize addI .i64 c 1=c1 at *
  generalize addI .i64 d 1=d1 at *
  obtain ⟨tm,tv,tu⟩:=t
  refine runS_sound hmix _ _ _ (of_eq (nSgb v w l c1 m d1 i k tm tv tu k1 w1 e2 k2 w2 en _) (cond_intro (fun h2=> ?_) fun h2=>cond_intro (fun h3=> ?_) fun h3=>cond_intro (fun h4=> ?_) fun h4=>cond_intro (fun h5=> ?_) fun h5=> ?_))
  ·rw [h2]; exact retNI
  ·rw [h2,h3]; exact retNI
  ·rw [h2,h3,h4]; exact retNI
  ·rw [h2,h3,h4,h5]; exact retNI
  ·rw [h2,h3,h4,h5]
   have last:∀ (r:Sg) (K:D→Heap→Prop),(K=fun d h''=>RetLe d h'' (.tup [L (sgE r).out 2 Iv.d,I (sgE r).err]) (hM2 v l (sgE r).c w m (sgE r).d))→At (En Tryz.f13) (fh Tryz.f13 K) [.code [1,1,1,1,1,1,1,1,1]] ⟨[(14,I r.err),(18,L r.out 2 Iv.d)],hM2 v l r.c w m r.d⟩:=fun r K hK=>by
    subst hK
    refine runS_sound hmix _ _ _ (of_eq (nSgd v w l r.c m r.d r.err r.out _) (cond_intro (fun g=> ?_) fun g _=>cond_intro (fun g1=> ?_) fun g1=> ?_))
    ·unfold sgE
     rw [g]; exact retNI
    ·unfold sgE
     rw [g,g1]; exact retNI
    ·unfold sgE
     rw [g,g1]; exact RetLe.refl _ _
   refine runS_sound hmix _ _ _ (of_eq (nSgc v w l c1 m d1 i k tm tv tu k1 en _) (cond_intro (fun g=>⟨e30 hv hw l c1 m d1 i k tm en,?_⟩) fun g=>⟨e31 hv hw l c1 m d1 i k ⟨tm,tv,tu⟩ en (hz (by simpa using h2) (by simpa using h3) (by simpa using h5) (by simpa using g)),?_⟩))
   ·have e:sgV v l c1 w m d1 i k ⟨tm,tv,tu⟩ k1 en=evR v l c1 w m d1 i k tm en:=by unfold sgV; rw [g]; rfl
    exact last _ _ (by rw [← e]; rfl)
   ·have e:sgV v l c1 w m d1 i k ⟨tm,tv,tu⟩ k1 en=vaR v l c1 w m d1 i k ⟨tm,tv,tu⟩ en:=by unfold sgV; rw [g]; rfl
    exact last _ _ (by rw [← e]; rfl)
end Go.Proofs.YtiekphbkomddfaaGreatDoor.S1
namespace Go.Proofs.YtiekphbkomddfaaGreatDoor.S1
open Go Go.Ab Go.Proofs
-- nolay
attribute [local instance] LT10
def occ (l:List Chg) (u:Int):Prop:=∃ x∈l,x.time=u
theorem tm_any (l:List Chg) (s:Int):(tmI l).any (inP s)=true↔(0≤s∧s≤1099511627776)∧occ l s:=by
 unfold tmI
 rw [(norI_spec _).2]
 by_cases hs:0≤s∧s≤1099511627776
 ·rw [any_inI hs,List.any_map,List.any_eq_true]
  refine ⟨fun ⟨x,hx,h⟩=>⟨hs,x,hx,?_⟩,fun ⟨_,x,hx,h⟩=>⟨x,hx,inP_iff.2 (by show x.time≤s∧s≤x.time; omega)⟩⟩
  have:x.time≤s∧s≤x.time:=inP_iff.1 h
  omega
 ·rw [inI_out hs]; simp [hs]
theorem gr_any (l:List Chg) {q e:Int} (h0:0≤q) (h1:q≤1099511627776) (hE:0≤e∧e≤1099511627776) (s:Int) :
  (grwI (tmI l) (subI .i64 0 q) q 0 e).any (inP s)=true↔(0≤s∧s≤e)∧∃ u,(0≤u∧u≤1099511627776)∧occ l u∧s - q≤u∧u≤s+q:=by
 rw [sub64 (a:=0) (by omega) (by omega),(grw_spec _ 0 e (by omega) (by omega) h1).2,loT0,show hiT e=e by unfold hiT; split <;> omega]
 refine and_congr_right fun hs=>⟨fun ⟨u,h,g1,g2⟩=> ?_,fun ⟨u,hu,h,g1,g2⟩=>⟨u,?_,by omega,by omega⟩⟩
 ·by_cases hu:0≤u∧u≤1099511627776
  ·rw [any_inI hu,tm_any] at h
   exact ⟨u,hu,h.2,by omega,by omega⟩
  ·rw [inI_out hu] at h; cases h
 ·rw [any_inI hu,tm_any]; exact ⟨hu,h⟩
theorem ev_any {x y:List Chg} {q e:Int} (h0:0≤q) (h1:q≤1099511627776) (hE:0≤e∧e≤1099511627776) (hx:∀ u,occ x u→0≤u∧u≤e) (hy:∀ u,occ y u→0≤u∧u≤e) :
  Nor 0 (evI q e x y)∧∀ s,(evI q e x y).any (inP s)=true↔(occ x s∧¬ ∃ u,occ y u∧s - q≤u∧u≤s+q)∨(occ y s∧¬ ∃ u,occ x u∧s - q≤u∧u≤s+q):=by
 refine ⟨(cmR_spec 0 _ _).1,fun s=> ?_⟩
 unfold evI
 have half:∀ (a b:List Chg),(∀ u,occ a u→0≤u∧u≤e)→(∀ u,occ b u→0≤u∧u≤e)→(inI (cmR 2 (tmI a) (grwI (tmI b) (subI .i64 0 q) q 0 e)) s=true↔occ a s∧¬ ∃ u,occ b u∧s - q≤u∧u≤s+q):=fun a b ha hb=>by
  by_cases hs:0≤s∧s≤1099511627776
  ·rw [any_inI hs,(cmR_spec 2 _ _).2,decide_eq_true hs,Bool.true_and,any_inI hs,any_inI hs]
   have e2:∀ p r,okR 2 p r=true↔p=true∧¬ r=true:=fun p r=>by cases p <;> cases r <;> decide
   rw [e2,tm_any,gr_any b h0 h1 hE]
   refine ⟨fun ⟨⟨_,g1⟩,g2⟩=>⟨g1,fun ⟨u,k1,k2⟩=>g2 ⟨ha s g1,u,?_,k1,k2⟩⟩,fun ⟨g1,g2⟩=>⟨⟨hs,g1⟩,fun ⟨_,u,_,k1,k2⟩=>g2 ⟨u,k1,k2⟩⟩⟩
   have:=hb u k1
   omega
  ·rw [inI_out hs]
   refine ⟨fun h=>(by cases h),fun ⟨h,_⟩=>absurd ⟨(ha s h).1,by have:=(ha s h).2; omega⟩ hs⟩
 rw [(cmR_spec 0 _ _).2,Bool.and_eq_true,decide_eq_true_eq]
 have e0:∀ p r,okR 0 p r=true↔p=true∨r=true:=fun p r=>by cases p <;> cases r <;> decide
 rw [e0,half x y hx hy,half y x hy hx]
 refine ⟨fun h=>h.2,fun h=>⟨?_,h⟩⟩
 rcases h with h | h
 ·have:=hx s h.1; omega
 ·have:=hy s h.1; omega
theorem Nor.len : ∀ {l : List Iv} {lo e : Int}, Nor lo l → (∀ s, l.any (inP s) = true → s ≤ e) → lo ≤ e + 1 → (l.length : Int) ≤ e + 1 - lo
  | [], _, _, _, _, h => by simp only [List.length_nil]; omega
  | [x], lo, e, h, hb, _ => by
    obtain ⟨h1, h2, h3, h4⟩ := h
    have := hb x.to (by rw [List.any_cons, inP_iff.2 ⟨h2, Int.le_refl _⟩]; rfl)
    simp only [List.length_cons, List.length_nil]; omega
  | x :: y :: r, lo, e, h, hb, _ => by
    obtain ⟨h1, h2, h3, h4⟩ := h
    have h5 := h4
    obtain ⟨g1, g2, _, _⟩ := h4
    have hy := hb y.to (by rw [List.any_cons, List.any_cons, inP_iff.2 ⟨g2, Int.le_refl _⟩]; simp)
    have := Nor.len h5 (fun s hs => hb s (by rw [List.any_cons, hs, Bool.or_true])) (by omega)
    rw [List.length_cons, Int.natCast_add]; omega
abbrev inS (w:Wv) (i:Int):Prop:=0≤i∧i < (w.sig.length:Int)
def codO (v:Wv) (i en:Int):List Sp:=codeL (sigAt (sigOf v i) 0) (cut (sigOf v i).chg 0 en) 0 en
def outF (v w:Wv) (i k:Int) (t:Tol):List Iv :=
 if (sigOf v i).kind=3 then evI t.time (minE v w) (inR (sigOf v i).chg 0 (minE v w)) (inR (sigOf w k).chg 0 (minE v w))
 else spI (sigOf v i).kind t (codO v i (minE v w)) (codO w k (minE v w)) (minE v w)
def erF (v w:Wv) (i k:Int) (t:Tol):Int :=
 if tolB t=false then 1 else if ¬ (inS v i∧inS w k) then 2 else if (sigOf v i).kind≠(sigOf w k).kind then 7 else if (sigOf v i).width≠(sigOf w k).width then 8 else 0
def nA (v w:Wv) (i:Int):Int:=if (sigOf v i).kind=3 then 2 else 2+ofN v i 0 (minE v w)
def nB (v w:Wv) (k:Int):Int:=if (sigOf w k).kind=3 then 2 else 1+ofN w k 0 (minE v w)
theorem tolB_time {t:Tol} (h:tolB t=true):0≤t.time∧t.time≤1099511627776:=by
 unfold tolB at h
 by_cases h1:t.time≥0
 ·by_cases h2:t.time≤1099511627776
  ·exact ⟨h1,h2⟩
  ·rw [decide_eq_true h1,decide_eq_false h2] at h; cases h
 ·rw [decide_eq_false h1] at h; cases h
def dfP (v:Wv) (i:Int) (w:Wv) (k:Int) (t:Tol) (e s:Int):Prop :=
 (0≤s∧s≤e) ∧
 (((sigOf v i).kind=3∧((occ (sigOf v i).chg s∧¬ ∃ u,u≤e∧occ (sigOf w k).chg u∧s - t.time≤u∧u≤s+t.time)∨(occ (sigOf w k).chg s∧¬ ∃ u,u≤e∧occ (sigOf v i).chg u∧s - t.time≤u∧u≤s+t.time))) ∨
 ((sigOf v i).kind≠3∧saF (sigOf v i).kind t (sigAt (sigOf v i) s) (sigAt (sigOf w k) s)=false∧¬ (nearP (sigOf v i).kind t (sigAt (sigOf w k)) (sigAt (sigOf v i) s) e s∧nearP (sigOf v i).kind t (sigAt (sigOf v i)) (sigAt (sigOf w k) s) e s)))
theorem inR_occ {l:List Chg} {e:Int} (h:Inc (-1) l) (u:Int):occ (inR l 0 e) u↔occ l u∧u≤e:=by
 unfold occ inR
 constructor
 ·rintro ⟨x,hx,rfl⟩
  rw [List.mem_filter,Bool.and_eq_true,decide_eq_true_eq,decide_eq_true_eq] at hx
  exact ⟨⟨x,hx.1,rfl⟩,hx.2.2⟩
 ·rintro ⟨⟨x,hx,rfl⟩,hu⟩
  have:=Inc.gt h x hx
  exact ⟨x,by rw [List.mem_filter,Bool.and_eq_true,decide_eq_true_eq,decide_eq_true_eq]; exact ⟨hx,by omega,hu⟩,rfl⟩
theorem occ_ge {l:List Chg} (h:Inc (-1) l) {u:Int} (hu:occ l u):0≤u:=by
 obtain ⟨x,hx,rfl⟩:=hu
 have:=Inc.gt h x hx
 omega
theorem minE_le (v w:Wv):minE v w≤v.fin∧minE v w≤w.fin:=by unfold minE; split <;> omega
theorem minE_ge {v w:Wv} (hv:SmOk v) (hw:SmOk w):0≤minE v w∧minE v w≤1099511627776:=by
 have:=hv.fin
 have:=hw.fin
 unfold minE; split <;> omega
theorem askE {v:Wv} {i e:Int} (hi:inS v i) (hk:(sigOf v i).kind≠3) (h0:0≤e) (he:e≤v.fin):Ask v i 0 e:=⟨hi,hk,Int.le_refl _,h0,he⟩
theorem nearP_congr {k:Int} {t:Tol} {B C:Int→Str} {v:Str} {e s:Int} (h:∀ u,0≤u→u≤e→B u=C u):nearP k t B v e s↔nearP k t C v e s:=by
 unfold nearP
 exact ⟨fun ⟨u,h1,h2,h3,h4,h5⟩=>⟨u,h1,h2,h3,h4,by rw [← h u h1 h2]; exact h5⟩,fun ⟨u,h1,h2,h3,h4,h5⟩=>⟨u,h1,h2,h3,h4,by rw [h u h1 h2]; exact h5⟩⟩
theorem out_spec {v w:Wv} (hv:SmOk v) (hw:SmOk w) {i k:Int} {t:Tol} (h:erF v w i k t=0) :
  Nor 0 (outF v w i k t)∧∀ s,(outF v w i k t).any (inP s)=true↔dfP v i w k t (minE v w) s:=by
 obtain ⟨e1,e2⟩:=minE_ge hv hw
 obtain ⟨m1,m2⟩:=minE_le v w
 unfold erF at h
 split at h
 ·cases h
 rename_i ht
 split at h
 ·cases h
 rename_i hin
 have hin:=Classical.not_not.1 hin
 split at h
 ·cases h
 rename_i hk
 have hk:=Classical.not_not.1 hk
 obtain ⟨t1,t2⟩:=tolB_time (by simpa using ht)
 obtain ⟨_,_,q1⟩:=hv.at hin.1
 obtain ⟨_,_,q2⟩:=hw.at hin.2
 unfold outF dfP
 generalize minE v w=e at *
 by_cases h3:(sigOf v i).kind=3
 ·rw [if_pos h3]
  obtain ⟨n1,n2⟩:=ev_any (x:=inR (sigOf v i).chg 0 e) (y:=inR (sigOf w k).chg 0 e) t1 t2 ⟨e1,e2⟩ (fun u hu=>⟨occ_ge q1 ((inR_occ q1 u).1 hu).1,((inR_occ q1 u).1 hu).2⟩) (fun u hu=>⟨occ_ge q2 ((inR_occ q2 u).1 hu).1,((inR_occ q2 u).1 hu).2⟩)
  refine ⟨n1,fun s=> ?_⟩
  rw [n2]
  simp only [inR_occ q1,inR_occ q2]
  constructor
  ·rintro (⟨⟨g1,g2⟩,g3⟩ | ⟨⟨g1,g2⟩,g3⟩)
   ·exact ⟨⟨occ_ge q1 g1,g2⟩,.inl ⟨h3,.inl ⟨g1,fun ⟨u,k1,k2,k3⟩=>g3 ⟨u,⟨k2,k1⟩,k3⟩⟩⟩⟩
   ·exact ⟨⟨occ_ge q2 g1,g2⟩,.inl ⟨h3,.inr ⟨g1,fun ⟨u,k1,k2,k3⟩=>g3 ⟨u,⟨k2,k1⟩,k3⟩⟩⟩⟩
  ·rintro ⟨⟨s0,s1⟩,⟨_,(⟨g1,g2⟩ | ⟨g1,g2⟩)⟩ | ⟨hn,_⟩⟩
   ·exact .inl ⟨⟨g1,s1⟩,fun ⟨u,⟨k1,k2⟩,k3⟩=>g2 ⟨u,k2,k1,k3⟩⟩
   ·exact .inr ⟨⟨g1,s1⟩,fun ⟨u,⟨k1,k2⟩,k3⟩=>g2 ⟨u,k2,k1,k3⟩⟩
   ·exact absurd h3 hn
 ·rw [if_neg h3]
  have oa:=ofOk hv (askE hin.1 h3 e1 m1)
  have ob:=ofOk hw (askE hin.2 (by rw [← hk]; exact h3) e1 m2)
  obtain ⟨n1,n2⟩:=sp_spec (k:=(sigOf v i).kind) (t:=t) oa.vl ob.vl oa.ne ob.ne oa.last ob.last t1 t2 e1
  refine ⟨n1,fun s=> ?_⟩
  unfold codO
  rw [n2]
  refine and_congr_right fun hs=> ?_
  rw [oa.at_ s hs.1 hs.2,ob.at_ s hs.1 hs.2,nearP_congr (fun u a b=>oa.at_ u a b),nearP_congr (fun u a b=>ob.at_ u a b)]
  exact ⟨fun g=> .inr ⟨h3,g⟩,fun g=>(g.resolve_left fun g=>h3 g.1).2⟩
end Go.Proofs.YtiekphbkomddfaaGreatDoor.S1
namespace Go.Proofs.YtiekphbkomddfaaGreatDoor.S1
open Go Go.Ab Go.Proofs
-- nolay
attribute [local instance] LT10
theorem neF {a b:Int} (h:a=b):(a !=b)=false:=by rw [h]; exact bne_self_eq_false _
theorem neT {a b:Int} (h:a≠b):(a !=b)=true:=bne_iff_ne.2 h
abbrev lOk (l n:Int):Prop:=l < 0∨n≤l
theorem callR_c {w:Wv} {l c i:Int} (h:inS w i) (h0:0≤c) (h1:c≤1000):callR w l c i=if lOk l (c+1) then 0 else 14:=by
 rw [callR_ok h,over_eq h0 (by omega)]
 by_cases hl:lOk l (c+1)
 ·rw [if_pos hl,decide_eq_false (by omega)]; rfl
 ·rw [if_neg hl,decide_eq_true (by omega)]; rfl
theorem kindR_y {w:Wv} {l c i:Int} (h:inS w i) (h0:0≤c) (h1:c≤1000) (hl:lOk l (c+1)):kindR w l c i=((sigOf w i).kind,(sigOf w i).width,0):=by
 unfold kindR; rw [callR_c h h0 h1,if_pos hl,if_pos rfl]
theorem kindR_n {w:Wv} {l c i:Int} (h:inS w i) (h0:0≤c) (h1:c≤1000) (hl:¬ lOk l (c+1)):kindR w l c i=(0,0,14):=by
 unfold kindR; rw [callR_c h h0 h1,if_neg hl,if_neg (by decide)]
theorem winR_y {w:Wv} {l c i e:Int} (h:inS w i) (h0:0≤c) (h1:c≤1000) (he:0≤e∧e≤w.fin) (hl:lOk l (c+1)):winR w l c i 0 e=(inR (sigOf w i).chg 0 e,0):=by
 unfold winR; rw [callR_c h h0 h1,if_pos hl,if_neg (by decide),if_neg (by omega)]
theorem winR_n {w:Wv} {l c i e:Int} (h:inS w i) (h0:0≤c) (h1:c≤1000) (hl:¬ lOk l (c+1)):winR w l c i 0 e=([],14):=by
 unfold winR; rw [callR_c h h0 h1,if_neg hl,if_pos (by decide)]
theorem ofR_c {w:Wv} (hw:SmOk w) {sig to lim c:Int} (a:Ask w sig 0 to) (h0:0≤c) (h1:c≤900) :
  (lOk lim (c+ofN w sig 0 to)→ofR w lim c sig 0 to=(codO w sig to,0,c+ofN w sig 0 to)) ∧
  (¬ lOk lim (c+ofN w sig 0 to)→(ofR w lim c sig 0 to).1=[]∧(ofR w lim c sig 0 to).2.1=14):=by
 obtain ⟨hs,hk,g0,g1,g2⟩:=a
 obtain ⟨q1,_,q3⟩:=hw.at hs
 have e1:addI .i64 c 1=c+1:=add64 (by omega) (by omega)
 have e2:addI .i64 (c+1) 1=c+2:=by rw [add64 (by omega) (by omega)]; omega
 unfold ofR
 rw [if_neg (by omega),e1,callR_c hs h0 (by omega),callR_c (c:=c+1) hs (show 0≤c+1 by omega) (show c+1≤1000 by omega),e2]
 obtain ⟨_,_,_,e3⟩:=q3.aft 0
 have hl:=aft_len (sigOf w sig).chg 0
 have ih:=itR_plain to lim (aft (sigOf w sig).chg 0) 0 (c+2) [⟨0,0,sigAt (sigOf w sig) 0⟩] e3 (by omega) (by omega)
 rw [cut_aft] at ih
 unfold ofN codO
 refine ⟨fun h=> ?_,fun h=> ?_⟩
 ·rw [if_pos (show lOk lim (c+1) by unfold lOk at *; omega),if_neg (by decide),if_neg hk,if_pos (show lOk lim (c+1+1) by unfold lOk at *; omega),if_neg (by decide)]
  simp only
  rw [ih.1 (by unfold lOk at *; omega)]
  simp only [ne_eq,not_true_eq_false,if_false]
  unfold codeL
  congr 2
  omega
 ·by_cases c1:lOk lim (c+1)
  ·rw [if_pos c1,if_neg (by decide),if_neg hk]
   by_cases c2:lOk lim (c+1+1)
   ·rw [if_pos c2,if_neg (by decide)]
    simp only
    have:=ih.2 (by unfold lOk at *; omega)
    rw [if_pos (by rw [this]; decide)]
    exact ⟨rfl,this⟩
   ·rw [if_neg c2,if_pos (by decide)]; exact ⟨rfl,rfl⟩
  ·rw [if_neg c1,if_pos (by decide)]; exact ⟨rfl,rfl⟩
theorem out_len {v w:Wv} (hv:SmOk v) (hw:SmOk w) (h40:v.fin≤40) {i k:Int} {t:Tol} (h:erF v w i k t=0):(outF v w i k t).length≤41:=by
 obtain ⟨n1,n2⟩:=out_spec hv hw h
 have he:=(minE_ge hv hw).1
 have hm:=(minE_le v w).1
 have:=n1.len (e:=minE v w) (fun s hs=>((n2 s).1 hs).1.2) (by omega)
 omega
theorem erF_0 {v w:Wv} {i k:Int} {t:Tol} (h:erF v w i k t=0):tolB t=true∧inS v i∧inS w k∧(sigOf v i).kind=(sigOf w k).kind∧(sigOf v i).width=(sigOf w k).width:=by
 unfold erF at h
 split at h
 ·cases h
 rename_i ht
 split at h
 ·cases h
 rename_i hin
 have hin:=Classical.not_not.1 hin
 split at h
 ·cases h
 rename_i hk
 split at h
 ·cases h
 rename_i hd
 exact ⟨by simpa using ht,hin.1,hin.2,Classical.not_not.1 hk,Classical.not_not.1 hd⟩
theorem ofN_ge {w:Wv} (i e:Int):3≤ofN w i 0 e:=by unfold ofN; omega
theorem ofN_le {w:Wv} (hw:SmOk w) {i:Int} (e:Int) (hi:inS w i):ofN w i 0 e≤23:=by
 obtain ⟨q1,_⟩:=hw.at hi
 have:(cut (sigOf w i).chg 0 e).length≤(sigOf w i).chg.length:=List.length_filter_le _ _
 unfold ofN; omega
theorem sgR_sm {v w:Wv} (hv:SmOk v) (hw:SmOk w) (h40:v.fin≤40) {i k:Int} {t:Tol} (h:erF v w i k t=0) (l m:Int) :
  (lOk l (nA v w i)∧lOk m (nB v w k)→sgR v l 0 w m 0 i k t=⟨outF v w i k t,0,nA v w i,nB v w k⟩) ∧
  (¬ (lOk l (nA v w i)∧lOk m (nB v w k))→(sgR v l 0 w m 0 i k t).out=[]∧(sgR v l 0 w m 0 i k t).err=14):=by
 obtain ⟨ht,hi,hk,ek,ew⟩:=erF_0 h
 obtain ⟨e1,e2⟩:=minE_ge hv hw
 obtain ⟨m1,m2⟩:=minE_le v w
 have hol:=out_len hv hw h40 h
 have oa:=ofN_ge (w:=v) i (minE v w)
 have ob:=ofN_ge (w:=w) k (minE v w)
 have pa:=ofN_le hv (minE v w) hi
 have pb:=ofN_le hw (minE v w) hk
 have a1:addI .i64 0 1=1:=rfl
 have hbad:∀ (c d:Int),(⟨[],14,c,d⟩:Sg).out=[]∧(⟨[],14,c,d⟩:Sg).err=14:=fun _ _=>⟨rfl,rfl⟩
 have na:2≤nA v w i:=by unfold nA; split <;> omega
 have nb:2≤nB v w k:=by unfold nB; split <;> omega
 unfold sgR
 rw [ht,a1,show (!true)=false from rfl,cond_false]
 by_cases l1:lOk l (0+1)
 ·rw [kindR_y hi (by omega) (by omega) l1,show ((0:Int)!=0)=false from rfl,cond_false]
  by_cases r1:lOk m (0+1)
  ·rw [kindR_y hk (by omega) (by omega) r1,show ((0:Int)!=0)=false from rfl,cond_false]
   simp only
   rw [neF ek,neF ew,cond_false,cond_false,decide_eq_false (show ¬ minE v w < 0 by omega),cond_false]
   have fine:∀ (c d:Int),sgE ⟨outF v w i k t,0,c,d⟩=⟨outF v w i k t,0,c,d⟩:=fun c d=>by
    unfold sgE
    rw [show ((0:Int)!=0)=false from rfl,cond_false]
    simp only
    rw [decide_eq_false (by omega),cond_false]
   have bad:∀ (x:Sg),x.err=14→(sgE x).out=[]∧(sgE x).err=14:=fun x hx=>by
    unfold sgE
    rw [hx,show ((14:Int)!=0)=true from rfl,cond_true]; exact ⟨rfl,rfl⟩
   by_cases h3:(sigOf v i).kind=3
   ·have eA:nA v w i=2:=by unfold nA; rw [if_pos h3]
    have eB:nB v w k=2:=by unfold nB; rw [if_pos (by rw [← ek]; exact h3)]
    rw [eA,eB]
    have eO:outF v w i k t=evI t.time (minE v w) (inR (sigOf v i).chg 0 (minE v w)) (inR (sigOf w k).chg 0 (minE v w)):=by unfold outF; rw [if_pos h3]
    unfold sgV
    rw [h3,show ((3:Int)==3)=true from rfl,cond_true]
    unfold evR
    by_cases l2:lOk l (1+1)
    ·rw [winR_y hi (by omega) (by omega) ⟨e1,m1⟩ l2,show ((0:Int)!=0)=false from rfl,cond_false]
     by_cases r2:lOk m (1+1)
     ·rw [winR_y hk (by omega) (by omega) ⟨e1,m2⟩ r2,show ((0:Int)!=0)=false from rfl,cond_false]
      simp only
      rw [← eO,fine]
      exact ⟨fun _=>rfl,fun hn=>absurd ⟨l2,r2⟩ hn⟩
     ·rw [winR_n hk (by omega) (by omega) r2,show ((14:Int)!=0)=true from rfl,cond_true]
      exact ⟨fun hn=>absurd hn.2 r2,fun _=>bad _ rfl⟩
    ·rw [winR_n hi (by omega) (by omega) l2,show ((14:Int)!=0)=true from rfl,cond_true]
     exact ⟨fun hn=>absurd hn.1 l2,fun _=>bad _ rfl⟩
   ·have hw3:(sigOf w k).kind≠3:=by rw [← ek]; exact h3
    have eA:nA v w i=1+ofN v i 0 (minE v w)+1:=by unfold nA; rw [if_neg h3]; omega
    have eB:nB v w k=1+ofN w k 0 (minE v w):=by unfold nB; rw [if_neg hw3]
    rw [eA,eB]
    have eO:outF v w i k t=spI (sigOf v i).kind t (codO v i (minE v w)) (codO w k (minE v w)) (minE v w):=by unfold outF; rw [if_neg h3]
    unfold sgV
    rw [show ((sigOf v i).kind==3)=false from beq_eq_false_iff_ne.2 h3,cond_false]
    unfold vaR
    obtain ⟨y1,n1⟩:=ofR_c hv (lim:=l) (c:=1) (askE hi h3 e1 m1) (by omega) (by omega)
    obtain ⟨y2,n2⟩:=ofR_c hw (lim:=m) (c:=1) (askE hk hw3 e1 m2) (by omega) (by omega)
    by_cases l2:lOk l (1+ofN v i 0 (minE v w))
    ·rw [y1 l2,show ((0:Int)!=0)=false from rfl,cond_false]
     by_cases r2:lOk m (1+ofN w k 0 (minE v w))
     ·rw [y2 r2,show ((0:Int)!=0)=false from rfl,cond_false]
      simp only
      by_cases l3:lOk l (1+ofN v i 0 (minE v w)+1)
      ·rw [kindR_y hi (by omega) (by omega) l3,show ((0:Int)!=0)=false from rfl,cond_false]
       simp only
       rw [← eO,fine,add64 (by omega) (by omega)]
       exact ⟨fun _=>rfl,fun hn=>absurd ⟨l3,r2⟩ hn⟩
      ·rw [kindR_n hi (by omega) (by omega) l3,show ((14:Int)!=0)=true from rfl,cond_true]
       exact ⟨fun hn=>absurd hn.1 l3,fun _=>bad _ rfl⟩
     ·rw [(n2 r2).2,show ((14:Int)!=0)=true from rfl,cond_true]
      exact ⟨fun hn=>absurd hn.2 r2,fun _=>bad _ rfl⟩
    ·rw [(n1 l2).2,show ((14:Int)!=0)=true from rfl,cond_true]
     exact ⟨fun hn=>absurd (show lOk l (1+ofN v i 0 (minE v w)) by have:=hn.1; unfold lOk at *; omega) l2,fun _=>bad _ rfl⟩
  ·rw [kindR_n hk (by omega) (by omega) r1,show ((14:Int)!=0)=true from rfl,cond_true]
   exact ⟨fun hn=>absurd hn.2 (by unfold lOk at *; omega),fun _=>hbad _ _⟩
 ·rw [kindR_n hi (by omega) (by omega) l1,show ((14:Int)!=0)=true from rfl,cond_true]
  exact ⟨fun hn=>absurd hn.1 (by unfold lOk at *; omega),fun _=>hbad _ _⟩
theorem sgR_er {v w:Wv} {i k:Int} {t:Tol} (h:erF v w i k t≠0):(sgR v (-1) 0 w (-1) 0 i k t).out=[]∧(sgR v (-1) 0 w (-1) 0 i k t).err=erF v w i k t:=by
 have out:∀ {u:Wv} {j:Int},¬ inS u j→kindR u (-1) 0 j=(0,0,2):=fun {u j} hj=>by
  have:callR u (-1) 0 j=2:=by
   unfold callR
   rw [show decide ((-1:Int)≥0)=false from rfl]
   simp only [cond_false]
   by_cases h1:j < 0
   ·rw [decide_eq_true h1]; rfl
   ·rw [decide_eq_false h1,decide_eq_true (show j≥(u.sig.length:Int) by unfold inS at hj; omega)]; rfl
  unfold kindR
  rw [this,if_neg (by decide)]
 unfold erF at *
 unfold sgR
 by_cases ht:tolB t=false
 ·rw [if_pos ht,ht]; exact ⟨rfl,rfl⟩
 rw [if_neg ht] at h ⊢
 rw [show tolB t=true by simpa using ht,show (!true)=false from rfl,cond_false]
 by_cases hi:inS v i
 ·rw [kindR_y hi (by omega) (by omega) (.inl (by omega)),show ((0:Int)!=0)=false from rfl,cond_false]
  by_cases hk:inS w k
  ·rw [kindR_y hk (by omega) (by omega) (.inl (by omega)),show ((0:Int)!=0)=false from rfl,cond_false]
   rw [if_neg (not_not_intro ⟨hi,hk⟩)] at h ⊢
   simp only
   by_cases c1:(sigOf v i).kind≠(sigOf w k).kind
   ·rw [if_pos c1,neT c1]; exact ⟨rfl,rfl⟩
   ·rw [if_neg c1] at h ⊢
    rw [neF (Classical.not_not.1 c1),cond_false]
    by_cases c2:(sigOf v i).width≠(sigOf w k).width
    ·rw [if_pos c2,neT c2]; exact ⟨rfl,rfl⟩
    ·rw [if_neg c2] at h; exact absurd rfl h
  ·rw [out hk,if_pos (fun g=>hk g.2)]; exact ⟨rfl,rfl⟩
 ·rw [out hi,if_pos (fun g=>hi g.1)]; exact ⟨rfl,rfl⟩
theorem sg_zip {v w:Wv} (hv:SmOk v) (hw:SmOk w) (h40:v.fin≤40) (l m i k:Int):(kindR v l 0 i).2.2=0→(kindR w m 0 k).2.2=0→(kindR v l 0 i).1=(kindR w m 0 k).1→0≤minE v w→(kindR v l 0 i).1≠3→(ofR v l (addI .i64 0 1) i 0 (minE v w)).2.1=0→(ofR w m (addI .i64 0 1) k 0 (minE v w)).2.1=0→ZipL (ofR v l (addI .i64 0 1) i 0 (minE v w)).1 (ofR w m (addI .i64 0 1) k 0 (minE v w)).1:=by
 intro h1 h2 h3 h4 h5 h6 h7
 have hin:∀ {u:Wv} {n j:Int},(kindR u n 0 j).2.2=0→inS u j∧(kindR u n 0 j).1=(sigOf u j).kind:=fun {u n j} hj=>by
  unfold kindR at *
  by_cases hc:callR u n 0 j=0
  ·rw [if_pos hc]
   have:=callR_in (w:=u) (lim:=n) (c:=0) (sig:=j) (by rw [hc]; rfl)
   exact ⟨⟨by omega,by omega⟩,rfl⟩
  ·rw [if_neg hc] at hj; exact absurd hj hc
 obtain ⟨i1,i2⟩:=hin h1
 obtain ⟨k1,k2⟩:=hin h2
 obtain ⟨m1,m2⟩:=minE_le v w
 rw [i2] at h3 h5
 rw [k2] at h3
 have a1:addI .i64 0 1=1:=rfl
 rw [a1] at h6 h7 ⊢
 have aa:=askE i1 h5 h4 m1
 have ab:=askE k1 (by rw [← h3]; exact h5) h4 m2
 obtain ⟨y1,n1⟩:=ofR_c hv (lim:=l) (c:=1) aa (by omega) (by omega)
 obtain ⟨y2,n2⟩:=ofR_c hw (lim:=m) (c:=1) ab (by omega) (by omega)
 by_cases l2:lOk l (1+ofN v i 0 (minE v w))
 ·by_cases r2:lOk m (1+ofN w k 0 (minE v w))
  ·rw [y1 l2,y2 r2]
   have oa:=ofOk hv aa
   have ob:=ofOk hw ab
   obtain ⟨z1,z2⟩:=zipR_rw oa.vl ob.vl oa.ne ob.ne oa.last ob.last (Int.le_refl 0) h4
   have:=z2.len (by omega)
   have h9:(zipR (codO v i (minE v w)) (codO w k (minE v w))).length≤100:=by unfold codO; omega
   exact ⟨z1,oa.len,ob.len,h9⟩
  ·rw [(n2 r2).2] at h7; cases h7
 ·rw [(n1 l2).2] at h6; cases h6
end Go.Proofs.YtiekphbkomddfaaGreatDoor.S1
namespace Go.Proofs.YtiekphbkomddfaaGreatDoor.S1
open Go Go.Ab Go.Proofs
-- nolay
attribute [local instance] LT10
theorem F166:OkF 166 Tryz.f166:=⟨by kernel_rfl,by kernel_rfl,by kernel_rfl⟩
def lv166:List (List Nat × List Nat):=[]
noncomputable def nM64s:List Nat→Nat→Option Ans:=scrAt []
theorem nM64 (n:Int) (K:D→Prop):runS (En Tryz.f166) (fi Tryz.f166 K) (nM64s ) lv166 200 [.code []] ⟨argSlots 0 [.int .u64 1,.int .u64 n],.empty⟩ =
 ((0:Int)≤32∧(0:Int)≤32∧(0:Int)≤32∧(0:Int)≤32∧(0:Int)≤32∧K (.tup [D.int IntKind.u64 (addI IntKind.u64 (addI IntKind.u64 (mulI IntKind.u64 (shrI IntKind.u64 1 32) (shrI IntKind.u64 n 32)) (shrI IntKind.u64 (addI IntKind.u64 (mulI IntKind.u64 (shrI IntKind.u64 1 32) (andI IntKind.u64 n 4294967295)) (shrI IntKind.u64 (mulI IntKind.u64 (andI IntKind.u64 1 4294967295) (andI IntKind.u64 n 4294967295)) 32)) 32)) (shrI IntKind.u64 (addI IntKind.u64 (andI IntKind.u64 (addI IntKind.u64 (mulI IntKind.u64 (shrI IntKind.u64 1 32) (andI IntKind.u64 n 4294967295)) (shrI IntKind.u64 (mulI IntKind.u64 (andI IntKind.u64 1 4294967295) (andI IntKind.u64 n 4294967295)) 32)) 4294967295) (mulI IntKind.u64 (andI IntKind.u64 1 4294967295) (shrI IntKind.u64 n 32))) 32)),D.int IntKind.u64 (mulI IntKind.u64 1 n)])):=by kernel_rfl
def mulHi (n:Int):Int:=addI .u64 (addI .u64 (mulI .u64 (shrI .u64 1 32) (shrI .u64 n 32)) (shrI .u64 (addI .u64 (mulI .u64 (shrI .u64 1 32) (andI .u64 n 4294967295)) (shrI .u64 (mulI .u64 (andI .u64 1 4294967295) (andI .u64 n 4294967295)) 32)) 32)) (shrI .u64 (addI .u64 (andI .u64 (addI .u64 (mulI .u64 (shrI .u64 1 32) (andI .u64 n 4294967295)) (shrI .u64 (mulI .u64 (andI .u64 1 4294967295) (andI .u64 n 4294967295)) 32)) 4294967295) (mulI .u64 (andI .u64 1 4294967295) (shrI .u64 n 32))) 32)
theorem F142:OkF 142 Tryz.f142:=⟨by kernel_rfl,by kernel_rfl,by kernel_rfl⟩
def lv142:List (List Nat × List Nat):=[]
noncomputable def nMuls (n:Int):List Nat→Nat→Option Ans:=scrAt [([1,1,0],2,Ans.pure [D.int IntKind.u64 1,D.int IntKind.u64 n] (.tup [D.int IntKind.u64 (mulHi n),D.int IntKind.u64 (mulI IntKind.u64 1 n)]))]
theorem nMul (n:Int) (K:D→Prop):runS (En Tryz.f142) (fi Tryz.f142 K) (nMuls n) lv142 200 [.code []] ⟨argSlots 0 [.int .u64 1,.int .u64 n],.empty⟩ =
 (PQ PP 166 [D.int IntKind.u64 1,D.int IntKind.u64 n] (.tup [D.int IntKind.u64 (mulHi n),D.int IntKind.u64 (mulI IntKind.u64 1 n)])∧K (.tup [D.int IntKind.u64 (mulHi n),D.int IntKind.u64 (mulI IntKind.u64 1 n)])):=by kernel_rfl
theorem F122:OkF 122 Tryz.f122:=⟨by kernel_rfl,by kernel_rfl,by kernel_rfl⟩
def lv122:List (List Nat × List Nat):=[([1,1,1,1,1,1,1,1,1,0],[0,7,8]),([1,1,1,1,1,1,1,1,1,1,1,0,0],[7,8,9,10])]
noncomputable def nRps (n:Int):List Nat→Nat→Option Ans:=scrAt [([1,1,1,0],5,Ans.pure [D.int IntKind.u64 1,D.int IntKind.u64 (IntKind.u64.wrap n)] (.tup [D.int IntKind.u64 (mulHi (IntKind.u64.wrap n)),D.int IntKind.u64 (mulI IntKind.u64 1 (IntKind.u64.wrap n))]))]
theorem nRp (n:Int) (K:D→Heap→Prop):runS (En Tryz.f122) (fh Tryz.f122 K) (nRps n) lv122 200 [.code []] ⟨argSlots 0 [.list 1 1 (litG [.int .u8 48]) .full,I n],.empty⟩ =
 (bif n==0 then K (.list 0 1 (litG []) .full) Heap.empty else bif decide (n < 0) then False else 1≤lenM→PQ PP 142 [D.int IntKind.u64 1,D.int IntKind.u64 (IntKind.u64.wrap n)] (.tup [D.int IntKind.u64 (mulHi (IntKind.u64.wrap n)),D.int IntKind.u64 (mulI IntKind.u64 1 (IntKind.u64.wrap n))])∧bif bif decide (mulHi (IntKind.u64.wrap n) > 0) then true else decide (mulI IntKind.u64 1 (IntKind.u64.wrap n) > 9223372036854775807) then False else 1≤lenM→bif decide (IntKind.i64.wrap (mulI IntKind.u64 1 (IntKind.u64.wrap n)) > 8192) then 1≤lenM→(↑1:Int)≠0∧(1≤lenM→At (En Tryz.f122) (fh Tryz.f122 K) [It.code [1,1,1,1,1,1,1,1,1,0],It.code [1,1,1,1,1,1,1,1,1,1]] {sl:=[(0,.list 1 1 (litG [D.int IntKind.u8 48]) .full),(7,I (IntKind.i64.wrap (mulI IntKind.u64 1 (IntKind.u64.wrap n)))),(8,I (mulI .i64 (quoI .i64 8192 (↑1:Int)) (↑1:Int)))],h:=Heap.empty:St}) else At (En Tryz.f122) (fh Tryz.f122 K) [It.code [1,1,1,1,1,1,1,1,1,0],It.code [1,1,1,1,1,1,1,1,1,1]] {sl:=[(0,.list 1 1 (litG [D.int IntKind.u8 48]) .full),(7,I (IntKind.i64.wrap (mulI IntKind.u64 1 (IntKind.u64.wrap n)))),(8,I (IntKind.i64.wrap (mulI IntKind.u64 1 (IntKind.u64.wrap n))))],h:=Heap.empty:St}):=by kernel_rfl
def hRp (n:Nat) (f:Nat→D):Heap:=⟨upd (fun _=>none) 0 (some (.arr n f)),1,fun _=>none,0,fun _=>none⟩
def SRp (n:Nat) (f:Nat→D) (c b:Int):St:=⟨[(7,I n),(8,I c),(9,.sl 0 0 n),(10,I b)],hRp n f⟩
noncomputable def nRpbs:List Nat→Nat→Option Ans:=scrAt []
theorem nRpb (n:Nat) (f:Nat→D) (c:Int) (K:D→Heap→Prop):runS (En Tryz.f122) (fh Tryz.f122 K) (nRpbs ) lv122 200 [.ops [1,1,1,1,1,1,1,1,1,0] 2,.code [1,1,1,1,1,1,1,1,1,1]] ⟨[(54,.sl 0 0 n),(53,I n),(0,.list 1 1 (litG [.int .u8 48]) .full),(7,I n),(8,I c)],hRp n f⟩ =
 (((0:Int)≤0∧0≤(↑n:Int)∧(↑n:Int)≤(↑n:Int)∧(↑n:Int)=(↑n:Int))∧(0+((↑n:Int).toNat - 0)≤n∧∀ (i:Nat),i < 1→oneD (litG [D.int IntKind.u8 48] i)=true)∧At (En Tryz.f122) (fh Tryz.f122 K) [It.code [1,1,1,1,1,1,1,1,1,1,1,0,0],It.blk 0,It.code [1,1,1,1,1,1,1,1,1,1,1,1]] {sl:=[(7,I (↑n:Int)),(8,I c),(9,D.sl 0 0 ((↑n:Int).toNat - 0)),(10,I (↑(min 1 ((↑n:Int).toNat - 0)):Int))],h:={box:=upd (upd (fun _=>none) 0 (some (Row.arr n f))) 0 (some (Row.arr n (overG f 0 (min 1 ((↑n:Int).toNat - 0)) (litG [D.int IntKind.u8 48])))),nl:=1,hw:=fun _=>none,nt:=0,vw:=fun _=>none:Heap}:St}):=by kernel_rfl
noncomputable def nRpas:List Nat→Nat→Option Ans:=scrAt []
theorem nRpa (n:Nat) (f:Nat→D) (c b:Int) (J:St→Prop) (K:D→Heap→Prop):runS (En Tryz.f122) (fh Tryz.f122 K) (nRpas ) lv122 200 [.code [1,1,1,1,1,1,1,1,1,1,1,0,0,0],stp [7,8,9,10] J,.blk 0,.code [1,1,1,1,1,1,1,1,1,1,1,1]] (SRp n f c b) =
 (bif decide (b < (↑n:Int)) then (0≤b∧b≤(↑n:Int))∧((0:Int)≤0∧(0≤if c < b then c else b)∧(if c < b then c else b)≤(↑n:Int))∧(0+b.toNat * 1+(n - b.toNat)≤n∧0+((if c < b then c else b).toNat - 0)≤n∧∀ (i:Nat),i < (if c < b then c else b).toNat - 0→oneD (f (0+i))=true)∧J {sl:=[(7,I (↑n:Int)),(8,I c),(9,D.sl 0 0 n),(10,I (addI .i64 b (↑(min ((if c < b then c else b).toNat - 0) (n - b.toNat)):Int)))],h:={box:=upd (upd (fun _=>none) 0 (some (Row.arr n f))) 0 (some (Row.arr n (overG f (0+b.toNat * 1) (min ((if c < b then c else b).toNat - 0) (n - b.toNat)) (dropG f 0)))),nl:=1,hw:=fun _=>none,nt:=0,vw:=fun _=>none:Heap}:St} else K (D.sl 0 0 n) {box:=upd (fun _=>none) 0 (some (Row.arr n f)),nl:=1,hw:=fun _=>none,nt:=0,vw:=fun _=>none:Heap}):=by kernel_rfl
end Go.Proofs.YtiekphbkomddfaaGreatDoor.S1
