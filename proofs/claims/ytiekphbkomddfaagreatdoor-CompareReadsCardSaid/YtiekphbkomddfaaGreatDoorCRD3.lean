/- strings.Trim, strings.Repeat. -/
import Derived.Test.YtiekphbkomddfaaGreatDoorCRD2
import Derived.Ground.NamesProg
import Derived.Lib.ItoaLen
import Derived.Shelf.Strconv.Itoa4
import Derived.Lib.AppendIntMem
namespace Go.Proofs.YtiekphbkomddfaaGreatDoor.S1
open Go Go.Ab Go.Proofs
theorem size_toArray (s:Str):(⟨s.toArray⟩:ByteArray).size=s.length:=by show s.toArray.size=_; simp
end Go.Proofs.YtiekphbkomddfaaGreatDoor.S1
namespace Go.Proofs.YtiekphbkomddfaaGreatDoor.S1
open Go Go.Ab Go.Proofs
abbrev encB (b:UInt8):D:= .int .u8 b.toNat
instance ddEncB {b:UInt8}:DD (encB b):=inferInstanceAs (DD (.int _ _))
def dgt (c:UInt8):Nat:=c.toNat - 48
def isDg (c:UInt8):Bool:=decide (48≤c.toNat∧c.toNat≤57)
def natD:Str→Nat
 | []=>0
 | c::r=>dgt c * 10 ^ r.length+natD r
theorem dgt_le {c:UInt8} (h:isDg c=true):dgt c≤9:=by
 unfold isDg at h
 have:=of_decide_eq_true h
 unfold dgt; omega
theorem p10 (n:Nat):0 < 10 ^ n:=Nat.pow_pos (by decide)
theorem natD_lt : ∀ (q : Str), q.all isDg = true → natD q < 10 ^ q.length
  | [], _ => by decide
  | c :: r, h => by
    rw [List.all_cons, Bool.and_eq_true] at h
    have h1 := natD_lt r h.2
    have h2 := dgt_le h.1
    have h3 : dgt c * 10 ^ r.length ≤ 9 * 10 ^ r.length := Nat.mul_le_mul_right _ h2
    rw [natD, List.length_cons, Nat.pow_succ]; omega
theorem natD_app : ∀ (a b : Str), natD (a ++ b) = natD a * 10 ^ b.length + natD b
  | [], b => by simp [natD]
  | c :: a, b => by
    rw [List.cons_append, natD, natD, natD_app a b, List.length_append, Nat.pow_add, Nat.add_mul, Nat.mul_assoc]; omega
theorem natD_zeros : ∀ n : Nat, natD (List.replicate n 48) = 0
  | 0 => rfl
  | n + 1 => by
    rw [List.replicate_succ, natD, natD_zeros n]
    show (48 - 48) * _ + 0 = 0
    simp
def cmpL:Str→Str→Int
 | [],[]=>0
 | [],_::_=> -1
 | _::_,[]=>1
 | a::u,b::v=>if a.toNat < b.toNat then -1 else if b.toNat < a.toNat then 1 else cmpL u v
def endOk (q:Str):Prop:=q=[]∨q.getLast? ≠some 48
theorem endOk_tail {c:UInt8} {r:Str} (h:endOk (c::r)):endOk r:=by
 rcases h with h | h
 ·cases h
 ·cases r with
  | nil=>exact .inl rfl
  | cons d r=>right; rwa [List.getLast?_cons_cons] at h
theorem natD_pos : ∀ (q : Str), q.all isDg = true → q ≠ [] → endOk q → 0 < natD q
  | [], _, h, _ => absurd rfl h
  | [c], h, _, he => by
    have hc : c ≠ 48 := by
      rcases he with he | he
      · cases he
      · intro e; rw [e] at he; exact he rfl
    rw [List.all_cons, Bool.and_eq_true] at h
    have h1 := of_decide_eq_true h.1
    have h2 : c.toNat ≠ 48 := fun e => hc (UInt8.toNat_inj.1 (by rw [e]; rfl))
    rw [natD, natD]; unfold dgt
    simp; omega
  | c :: d :: r, h, _, he => by
    rw [List.all_cons, Bool.and_eq_true] at h
    have := natD_pos (d :: r) h.2 (by simp) (endOk_tail he)
    rw [natD]; omega
theorem sgn_neg {x:Int} (h:x < 0):x.sign = -1:=Int.sign_eq_neg_one_of_neg h
theorem sgn_pos {x:Int} (h:0 < x):x.sign=1:=Int.sign_eq_one_of_pos h
theorem sgn_mul {k x:Int} (h:0 < k):(k * x).sign=x.sign:=by rw [Int.sign_mul,sgn_pos h,Int.one_mul]
theorem cmpL_frac : ∀ (u v : Str), u.all isDg = true → v.all isDg = true → endOk u → endOk v → cmpL u v = ((natD u : Int) * (10 : Int) ^ v.length - (natD v : Int) * (10 : Int) ^ u.length).sign
  | [], [], _, _, _, _ => by simp [cmpL, natD]
  | [], d :: v, _, hv, _, ev => by
    have := natD_pos (d :: v) hv (by simp) ev
    rw [cmpL, sgn_neg]
    simp only [natD, List.length_nil, Int.pow_zero] at this ⊢
    omega
  | c :: u, [], hu, _, eu, _ => by
    have := natD_pos (c :: u) hu (by simp) eu
    rw [cmpL, sgn_pos]
    simp only [natD, List.length_nil, Int.pow_zero] at this ⊢
    omega
  | c :: u, d :: v, hu, hv, eu, ev => by
    rw [List.all_cons, Bool.and_eq_true] at hu hv
    have ih := cmpL_frac u v hu.2 hv.2 (endOk_tail eu) (endOk_tail ev)
    have hX := natD_lt u hu.2
    have hY := natD_lt v hv.2
    have hc := of_decide_eq_true hu.1
    have hd := of_decide_eq_true hv.1
    have e : (natD (c :: u) : Int) * (10 : Int) ^ (d :: v).length - (natD (d :: v) : Int) * (10 : Int) ^ (c :: u).length =
        10 * (((dgt c : Int) - (dgt d : Int)) * ((10 : Int) ^ u.length * (10 : Int) ^ v.length) + ((natD u : Int) * (10 : Int) ^ v.length - (natD v : Int) * (10 : Int) ^ u.length)) := by
      simp only [natD, List.length_cons, Int.pow_succ, Int.natCast_add, Int.natCast_mul, Int.natCast_pow]
      show _ = _
      generalize (10 : Int) ^ u.length = A
      generalize (10 : Int) ^ v.length = B
      have : ((10 : Nat) : Int) = 10 := rfl
      simp only [Int.add_mul, Int.sub_mul, Int.mul_add, Int.mul_sub, Int.mul_comm, Int.mul_left_comm, Int.mul_assoc]
      omega
    rw [e, sgn_mul (by decide)]
    have hP : (0 : Int) < (10 : Int) ^ u.length := Int.pow_pos (by decide)
    have hQ : (0 : Int) < (10 : Int) ^ v.length := Int.pow_pos (by decide)
    have hX' : (natD u : Int) < (10 : Int) ^ u.length := by exact_mod_cast hX
    have hY' : (natD v : Int) < (10 : Int) ^ v.length := by exact_mod_cast hY
    have hXm : (natD u : Int) * (10 : Int) ^ v.length < (10 : Int) ^ u.length * (10 : Int) ^ v.length := Int.mul_lt_mul_of_pos_right hX' hQ
    have hYm : (natD v : Int) * (10 : Int) ^ u.length < (10 : Int) ^ u.length * (10 : Int) ^ v.length := by
      rw [Int.mul_comm ((10 : Int) ^ u.length)]; exact Int.mul_lt_mul_of_pos_right hY' hP
    have hX0 : 0 ≤ (natD u : Int) * (10 : Int) ^ v.length := Int.mul_nonneg (by omega) (by omega)
    have hY0 : 0 ≤ (natD v : Int) * (10 : Int) ^ u.length := Int.mul_nonneg (by omega) (by omega)
    have hPQ : 0 < (10 : Int) ^ u.length * (10 : Int) ^ v.length := Int.mul_pos hP hQ
    rw [cmpL]
    generalize (natD u : Int) * (10 : Int) ^ v.length = X at *
    generalize (natD v : Int) * (10 : Int) ^ u.length = Y at *
    generalize (10 : Int) ^ u.length * (10 : Int) ^ v.length = Z at *
    by_cases h1 : c.toNat < d.toNat
    · rw [if_pos h1, sgn_neg]
      have : ((dgt c : Int) - (dgt d : Int)) * Z ≤ (-1) * Z := Int.mul_le_mul_of_nonneg_right (by unfold dgt; omega) (by omega)
      omega
    · rw [if_neg h1]
      by_cases h2 : d.toNat < c.toNat
      · rw [if_pos h2, sgn_pos]
        have : 1 * Z ≤ ((dgt c : Int) - (dgt d : Int)) * Z := Int.mul_le_mul_of_nonneg_right (by unfold dgt; omega) (by omega)
        omega
      · rw [if_neg h2, ih]
        have : (dgt c : Int) - (dgt d : Int) = 0 := by unfold dgt; omega
        rw [this, Int.zero_mul, Int.zero_add]
structure Nm where (neg:Bool) (dig:Str) (ex:Int) deriving Inhabited,DecidableEq
def Nm.d (x:Nm):D:= .agg [B x.neg,L x.dig 1 encB,I x.ex]
def nm0:Nm:=⟨false,[],0⟩
def Nm.mag (x:Nm):Int:=(natD x.dig:Int) * (10:Int) ^ (x.ex+3000).toNat
def Nm.val (x:Nm):Int:=if x.neg then - x.mag else x.mag
def Nm.fst (x:Nm):Int:=x.ex+x.dig.length - 1
structure Nrm (x:Nm):Prop where
 dg:x.dig.all isDg=true
 hd:x.dig.head? ≠some 48
 lt:endOk x.dig
 z:x.dig=[]→x=nm0
theorem natD_ge {q : Str} (h : q.all isDg = true) (h0 : q ≠ []) (hd : q.head? ≠ some 48) : 10 ^ (q.length - 1) ≤ natD q := by
  cases q with
  | nil => exact absurd rfl h0
  | cons c r =>
    rw [List.all_cons, Bool.and_eq_true] at h
    have h1 := of_decide_eq_true h.1
    have h2 : c.toNat ≠ 48 := fun e => hd (by rw [List.head?_cons]; congr 1; exact UInt8.toNat_inj.1 (by rw [e]; rfl))
    have h3 : 1 * 10 ^ r.length ≤ dgt c * 10 ^ r.length := Nat.mul_le_mul_right _ (by unfold dgt; omega)
    rw [natD, List.length_cons, Nat.add_sub_cancel]; omega
theorem nm0_mag:nm0.mag=0:=by
 unfold Nm.mag
 rw [show natD nm0.dig=0 from rfl]
 exact Int.zero_mul _
def magF (a b:Nm):Int :=
 if a.dig=[]∨b.dig=[] then ((a.dig.length:Int) - (b.dig.length:Int)).sign
 else if a.fst < b.fst then -1 else if b.fst < a.fst then 1 else cmpL a.dig b.dig
theorem pow_le' {a b:Int} (h:a≤b):(10:Int) ^ a.toNat≤(10:Int) ^ b.toNat:=by
 have:10 ^ a.toNat≤10 ^ b.toNat:=Nat.pow_le_pow_right (by decide) (by omega)
 exact_mod_cast this
theorem mag_lt {x:Nm} (h:x.dig.all isDg=true) (hx : -2000≤x.ex):x.mag < (10:Int) ^ (x.ex+x.dig.length+3000).toNat:=by
 have h1:(natD x.dig:Int) < (10:Int) ^ x.dig.length:=by have:=natD_lt _ h; exact_mod_cast this
 have e:(10:Int) ^ (x.ex+x.dig.length+3000).toNat=(10:Int) ^ x.dig.length * (10:Int) ^ (x.ex+3000).toNat:=by
  rw [← Int.pow_add]; congr 1; omega
 rw [e]
 exact Int.mul_lt_mul_of_pos_right h1 (Int.pow_pos (by decide))
theorem mag_ge {x:Nm} (h:Nrm x) (h0:x.dig≠[]) (hx : -2000≤x.ex):(10:Int) ^ (x.fst+3000).toNat≤x.mag:=by
 have hl:=List.length_pos_iff.2 h0
 have h1:(10:Int) ^ (x.dig.length - 1)≤(natD x.dig:Int):=by have:=natD_ge h.dg h0 h.hd; exact_mod_cast this
 have e:(10:Int) ^ (x.fst+3000).toNat=(10:Int) ^ (x.dig.length - 1) * (10:Int) ^ (x.ex+3000).toNat:=by
  rw [← Int.pow_add]; congr 1; unfold Nm.fst; omega
 rw [e]
 exact Int.mul_le_mul_of_nonneg_right h1 (Int.le_of_lt (Int.pow_pos (by decide)))
theorem mag_pos {x:Nm} (h:Nrm x) (h0:x.dig≠[]):0 < x.mag:=by
 have:=natD_pos _ h.dg h0 h.lt
 exact Int.mul_pos (by omega) (Int.pow_pos (by decide))
theorem magF_mag {a b:Nm} (ha:Nrm a) (hb:Nrm b) (ea : -1000≤a.ex) (eb : -1000≤b.ex) (la:a.dig.length≤1900) (lb:b.dig.length≤1900):magF a b=(a.mag - b.mag).sign:=by
 unfold magF
 by_cases h0:a.dig=[]∨b.dig=[]
 ·rw [if_pos h0]
  by_cases h1:a.dig=[]
  ·rw [ha.z h1,nm0_mag,show (nm0.dig.length:Int)=0 from rfl]
   by_cases h2:b.dig=[]
   ·rw [hb.z h2,nm0_mag,show (nm0.dig.length:Int)=0 from rfl]
   ·have:=mag_pos hb h2
    have hl:=List.length_pos_iff.2 h2
    rw [sgn_neg (show 0 - b.mag < 0 by omega),sgn_neg (by omega)]
  ·have h2:b.dig=[]:=h0.resolve_left h1
   rw [hb.z h2,nm0_mag,show (nm0.dig.length:Int)=0 from rfl]
   have:=mag_pos ha h1
   have hl:=List.length_pos_iff.2 h1
   rw [sgn_pos (show 0 < a.mag - 0 by omega),sgn_pos (by omega)]
 rw [if_neg h0]
 obtain ⟨h1,h2⟩:=not_or.1 h0
 by_cases h3:a.fst < b.fst
 ·rw [if_pos h3,sgn_neg]
  have g1:=mag_lt ha.dg (by omega)
  have g2:=mag_ge hb h2 (by omega)
  have g3:=pow_le' (a:=a.ex+a.dig.length+3000) (b:=b.fst+3000) (by unfold Nm.fst at *; omega)
  omega
 rw [if_neg h3]
 by_cases h4:b.fst < a.fst
 ·rw [if_pos h4,sgn_pos]
  have g1:=mag_lt hb.dg (by omega)
  have g2:=mag_ge ha h1 (by omega)
  have g3:=pow_le' (a:=b.ex+b.dig.length+3000) (b:=a.fst+3000) (by unfold Nm.fst at *; omega)
  omega
 rw [if_neg h4,cmpL_frac _ _ ha.dg hb.dg ha.lt hb.lt]
 have hE:a.ex - b.dig.length=b.ex - a.dig.length:=by unfold Nm.fst at *; omega
 have e1:a.mag=(10:Int) ^ (a.ex+3000 - b.dig.length).toNat * ((natD a.dig:Int) * (10:Int) ^ b.dig.length):=by
  unfold Nm.mag
  have:(10:Int) ^ (a.ex+3000).toNat=(10:Int) ^ (a.ex+3000 - b.dig.length).toNat * (10:Int) ^ b.dig.length:=by
   rw [← Int.pow_add]; congr 1; omega
  rw [this,Int.mul_left_comm]
 have e2:b.mag=(10:Int) ^ (a.ex+3000 - b.dig.length).toNat * ((natD b.dig:Int) * (10:Int) ^ a.dig.length):=by
  unfold Nm.mag
  have:(10:Int) ^ (b.ex+3000).toNat=(10:Int) ^ (a.ex+3000 - b.dig.length).toNat * (10:Int) ^ a.dig.length:=by
   rw [← Int.pow_add]; congr 1; omega
  rw [this,Int.mul_left_comm]
 rw [e1,e2,← Int.mul_sub,sgn_mul (Int.pow_pos (by decide))]
end Go.Proofs.YtiekphbkomddfaaGreatDoor.S1
namespace Go.Proofs.YtiekphbkomddfaaGreatDoor.S1
open Go Go.Ab Go.Proofs
def zs (n:Nat):Str:=List.replicate n 48
theorem zs_len (n:Nat):(zs n).length=n:=by unfold zs; simp
theorem zs_dg (n:Nat):(zs n).all isDg=true:=by
 unfold zs
 rw [List.all_replicate]
 split <;> rfl
def tL:Str→Str
 | []=>[]
 | c::r=>if c=48 then tL r else c::r
def tR (q:Str):Str:=(tL q.reverse).reverse
theorem tL_spec : ∀ q : Str, ∃ n, q = zs n ++ tL q ∧ (tL q).head? ≠ some 48
  | [] => ⟨0, rfl, by simp [tL]⟩
  | c :: r => by
    rw [tL]
    by_cases h : c = 48
    · obtain ⟨n, h1, h2⟩ := tL_spec r
      rw [if_pos h]
      refine ⟨n + 1, ?_, h2⟩
      have : zs (n + 1) = 48 :: zs n := by unfold zs; rw [List.replicate_succ]
      rw [this, List.cons_append, ← h1, h]
    · rw [if_neg h]
      exact ⟨0, rfl, by rw [List.head?_cons]; intro e; exact h (Option.some.inj e)⟩
theorem tR_spec (q:Str):∃ n,q=tR q++zs n∧endOk (tR q):=by
 obtain ⟨n,h1,h2⟩:=tL_spec q.reverse
 refine ⟨n,?_,?_⟩
 ·have:=congrArg List.reverse h1
  rw [List.reverse_reverse,List.reverse_append] at this
  have hz:(zs n).reverse=zs n:=by unfold zs; rw [List.reverse_replicate]
  rw [hz] at this
  exact this
 ·right
  unfold tR
  rw [List.getLast?_reverse]
  exact h2
def trimF (x:Nm):Nm :=
 if tR (tL x.dig)=[] then nm0 else ⟨x.neg,tR (tL x.dig),x.ex+((tL x.dig).length - (tR (tL x.dig)).length:Nat)⟩
theorem all_app {p:UInt8→Bool} {a b:Str} (h:(a++b).all p=true):a.all p=true∧b.all p=true:=by
 rw [List.all_append,Bool.and_eq_true] at h; exact h
theorem trimF_nrm (x : Nm) (h : x.dig.all isDg = true) : Nrm (trimF x) := by
  obtain ⟨n, h1, h2⟩ := tL_spec x.dig
  obtain ⟨m, h3, h4⟩ := tR_spec (tL x.dig)
  have h5 : (tR (tL x.dig)).all isDg = true := by
    rw [h1] at h
    have h6 := (all_app h).2
    rw [h3] at h6
    exact (all_app h6).1
  unfold trimF
  by_cases h0 : tR (tL x.dig) = []
  · rw [if_pos h0]
    exact ⟨rfl, by simp [nm0], .inl rfl, fun _ => rfl⟩
  · rw [if_neg h0]
    refine ⟨h5, ?_, h4, fun e => absurd e h0⟩
    intro e
    apply h2
    rw [h3]
    cases hq : tR (tL x.dig) with
    | nil => exact absurd hq h0
    | cons c r =>
      simp only [hq, List.head?_cons] at e
      rw [List.cons_append, List.head?_cons]; exact e
theorem trimF_val (x:Nm) (hx : -3000≤x.ex):(trimF x).val=x.val∧(trimF x).mag=x.mag:=by
 obtain ⟨n,h1,_⟩:=tL_spec x.dig
 obtain ⟨m,h3,_⟩:=tR_spec (tL x.dig)
 have hl:(tL x.dig).length - (tR (tL x.dig)).length=m:=by
  have:=congrArg List.length h3
  rw [List.length_append,zs_len] at this; omega
 have hz:∀ k,natD (zs k)=0:=fun k=>natD_zeros k
 have hv:natD x.dig=natD (tR (tL x.dig)) * 10 ^ m:=by
  have e1:natD x.dig=natD (tL x.dig):=by
   conv=>lhs; rw [h1,natD_app,hz]
   simp
  have e2:natD (tL x.dig)=natD (tR (tL x.dig)) * 10 ^ m:=by
   conv=>lhs; rw [h3,natD_app,hz,zs_len]
   omega
  rw [e1,e2]
 unfold trimF
 by_cases h0:tR (tL x.dig)=[]
 ·rw [if_pos h0]
  rw [h0] at hv
  have:x.mag=0:=by unfold Nm.mag; rw [hv]; simp [natD]
  unfold Nm.val
  rw [this,nm0_mag]
  simp
 ·rw [if_neg h0,hl]
  have:Nm.mag ⟨x.neg,tR (tL x.dig),x.ex+(m:Int)⟩=x.mag:=by
   unfold Nm.mag
   rw [hv]
   have e:(10:Int) ^ (x.ex+(m:Int)+3000).toNat=(10:Int) ^ m * (10:Int) ^ (x.ex+3000).toNat:=by
    rw [← Int.pow_add]; congr 1; omega
   show (natD (tR (tL x.dig)):Int) * (10:Int) ^ (x.ex+(m:Int)+3000).toNat=_
   rw [e,Int.natCast_mul,Int.natCast_pow,Int.mul_assoc]; rfl
  unfold Nm.val
  rw [this]
  exact ⟨rfl,rfl⟩
theorem tL_len (q:Str):(tL q).length≤q.length:=by
 obtain ⟨n,h,_⟩:=tL_spec q
 have:=congrArg List.length h
 rw [List.length_append,zs_len] at this; omega
theorem tR_len (q:Str):(tR q).length≤q.length:=by
 have:=tL_len q.reverse
 unfold tR
 rw [List.length_reverse] at *; omega
theorem trimF_len (x:Nm):(trimF x).dig.length≤x.dig.length:=by
 have h1:=tL_len x.dig
 have h2:=tR_len (tL x.dig)
 unfold trimF
 split
 ·show 0≤_; omega
 ·show (tR (tL x.dig)).length≤_; omega
def alnR (x:Nm) (e:Int) (n:Nat):Str:=zs (n - x.dig.length - (x.ex - e).toNat)++(x.dig++zs (x.ex - e).toNat)
theorem alnR_val (x:Nm) (e:Int) (n:Nat):natD (alnR x e n)=natD x.dig * 10 ^ (x.ex - e).toNat:=by
 unfold alnR
 have hz:∀ k,natD (zs k)=0:=fun k=>natD_zeros k
 rw [natD_app,hz,natD_app,hz,zs_len]; omega
theorem alnR_len {x:Nm} {e:Int} {n:Nat} (h:x.dig.length+(x.ex - e).toNat≤n):(alnR x e n).length=n:=by
 unfold alnR
 rw [List.length_append,List.length_append,zs_len,zs_len]; omega
theorem alnR_dg {x:Nm} (e:Int) (n:Nat) (h:x.dig.all isDg=true):(alnR x e n).all isDg=true:=by
 unfold alnR
 rw [List.all_append,List.all_append,zs_dg,zs_dg,h]; rfl
def chD (n:Int):UInt8:=UInt8.ofNat (48+n.toNat)
theorem chD_spec {n:Int} (h0:0≤n) (h1:n≤9):isDg (chD n)=true∧(dgt (chD n):Int)=n:=by
 have e:(chD n).toNat=48+n.toNat:=by unfold chD; rw [UInt8.toNat_ofNat']; omega
 refine ⟨?_,?_⟩
 ·unfold isDg; rw [e]; exact decide_eq_true (by omega)
 ·unfold dgt; rw [e]; omega
def stepA (d:Int):UInt8 × Int:=if d > 9 then (chD (d - 10),1) else if d < 0 then (chD (d+10),-1) else (chD d,0)
def addL (sb:Bool):Str→Str→Str × Int
 | x::r,y::q=>((stepA ((dgt x:Int)+(addL sb r q).2+(if sb then - (dgt y:Int) else (dgt y:Int)))).1::(addL sb r q).1,(stepA ((dgt x:Int)+(addL sb r q).2+(if sb then - (dgt y:Int) else (dgt y:Int)))).2)
 | _,_=>([],0)
theorem addL_spec (sb : Bool) : ∀ (x y : Str), x.length = y.length → x.all isDg = true → y.all isDg = true →
    (addL sb x y).1.length = x.length ∧ (addL sb x y).1.all isDg = true ∧ -1 ≤ (addL sb x y).2 ∧ (addL sb x y).2 ≤ 1 ∧
    (natD (addL sb x y).1 : Int) + (addL sb x y).2 * (10 : Int) ^ x.length = (natD x : Int) + (if sb then - (natD y : Int) else (natD y : Int))
  | [], [], _, _, _ => by
    rw [addL]
    · refine ⟨rfl, rfl, by decide, by decide, ?_⟩
      cases sb <;> rfl
    · intro _ _ _ _ h; cases h
  | [], _ :: _, h, _, _ => by simp at h
  | _ :: _, [], h, _, _ => by simp at h
  | c :: x, d :: y, h, hx, hy => by
    rw [List.all_cons, Bool.and_eq_true] at hx hy
    have hl : x.length = y.length := by simpa using h
    obtain ⟨h1, h2, h3, h4, h5⟩ := addL_spec sb x y hl hx.2 hy.2
    have hc := dgt_le hx.1
    have hd := dgt_le hy.1
    rw [addL]
    generalize (addL sb x y).2 = cy at *
    generalize (addL sb x y).1 = z at *
    generalize hs : (dgt c : Int) + cy + (if sb then - (dgt d : Int) else (dgt d : Int)) = s at *
    have hsb : -10 ≤ s ∧ s ≤ 19 := by
      cases sb
      · have e : (dgt c : Int) + cy + (dgt d : Int) = s := hs
        omega
      · have e : (dgt c : Int) + cy + -(dgt d : Int) = s := hs
        omega
    have hst : isDg (stepA s).1 = true ∧ -1 ≤ (stepA s).2 ∧ (stepA s).2 ≤ 1 ∧ (dgt (stepA s).1 : Int) + 10 * (stepA s).2 = s := by
      unfold stepA
      by_cases k1 : s > 9
      · rw [if_pos k1]
        obtain ⟨m1, m2⟩ := chD_spec (n := s - 10) (by omega) (by omega)
        exact ⟨m1, by simp only; omega, by simp only; omega, by simp only; omega⟩
      · rw [if_neg k1]
        by_cases k2 : s < 0
        · rw [if_pos k2]
          obtain ⟨m1, m2⟩ := chD_spec (n := s + 10) (by omega) (by omega)
          exact ⟨m1, by simp only; omega, by simp only; omega, by simp only; omega⟩
        · rw [if_neg k2]
          obtain ⟨m1, m2⟩ := chD_spec (n := s) (by omega) (by omega)
          exact ⟨m1, by simp only; omega, by simp only; omega, by simp only; omega⟩
    obtain ⟨g1, g2, g3, g4⟩ := hst
    refine ⟨by simp only [List.length_cons]; omega, by rw [List.all_cons, g1, h2]; rfl, g2, g3, ?_⟩
    simp only [natD, List.length_cons, Int.natCast_add, Int.natCast_mul, Int.natCast_pow, Int.pow_succ]
    have e10 : ((10 : Nat) : Int) = 10 := rfl
    rw [h1, e10]
    generalize (stepA s).2 = c2 at *
    generalize (dgt (stepA s).1 : Int) = z0 at *
    have hm : z0 * (10 : Int) ^ x.length + c2 * ((10 : Int) ^ x.length * 10) = s * (10 : Int) ^ x.length := by
      rw [← g4, Int.add_mul, Int.mul_comm ((10 : Int) ^ x.length) 10, ← Int.mul_assoc, Int.mul_comm c2 10]
    rw [← hl]
    generalize (natD z : Int) = Z at *
    cases sb
    · have e : (dgt c : Int) + cy + (dgt d : Int) = s := hs
      have h5 : Z + cy * (10 : Int) ^ x.length = (natD x : Int) + (natD y : Int) := h5
      show z0 * (10 : Int) ^ x.length + Z + c2 * ((10 : Int) ^ x.length * 10) = (dgt c : Int) * (10 : Int) ^ x.length + (natD x : Int) + ((dgt d : Int) * (10 : Int) ^ x.length + (natD y : Int))
      rw [← e, Int.add_mul, Int.add_mul] at hm
      omega
    · have e : (dgt c : Int) + cy + -(dgt d : Int) = s := hs
      have h5 : Z + cy * (10 : Int) ^ x.length = (natD x : Int) + -(natD y : Int) := h5
      show z0 * (10 : Int) ^ x.length + Z + c2 * ((10 : Int) ^ x.length * 10) = (dgt c : Int) * (10 : Int) ^ x.length + (natD x : Int) + -((dgt d : Int) * (10 : Int) ^ x.length + (natD y : Int))
      rw [← e, Int.add_mul, Int.add_mul, Int.neg_mul] at hm
      omega
def lenA (a b:Nm):Nat:=(max a.fst b.fst - min a.ex b.ex+2).toNat
def addF (a b:Nm):Nm :=
 if a.dig=[] then b else if b.dig=[] then a
 else if magF a b < 0 then trimF ⟨b.neg,(addL (b.neg !=a.neg) (alnR b (min a.ex b.ex) (lenA a b)) (alnR a (min a.ex b.ex) (lenA a b))).1,min a.ex b.ex⟩
 else trimF ⟨a.neg,(addL (a.neg !=b.neg) (alnR a (min a.ex b.ex) (lenA a b)) (alnR b (min a.ex b.ex) (lenA a b))).1,min a.ex b.ex⟩
theorem aln_ok {a b:Nm}:a.dig.length+(a.ex - min a.ex b.ex).toNat < lenA a b∧b.dig.length+(b.ex - min a.ex b.ex).toNat < lenA a b:=by
 unfold lenA Nm.fst
 constructor <;> omega
theorem add_core {a b:Nm} (e:Int) (n:Nat) (ha:a.dig.all isDg=true) (hb:b.dig.all isDg=true) (e1:e≤a.ex) (e2:e≤b.ex) (he : -3000≤e) (la:a.dig.length+(a.ex - e).toNat < n) (lb:b.dig.length+(b.ex - e).toNat < n) (hm:b.mag≤a.mag) :
  (trimF ⟨a.neg,(addL (a.neg !=b.neg) (alnR a e n) (alnR b e n)).1,e⟩).val=a.val+b.val∧Nrm (trimF ⟨a.neg,(addL (a.neg !=b.neg) (alnR a e n) (alnR b e n)).1,e⟩) ∧
  (addL (a.neg !=b.neg) (alnR a e n) (alnR b e n)).1.length=n:=by
 have l1:=alnR_len (x:=a) (e:=e) (n:=n) (by omega)
 have l2:=alnR_len (x:=b) (e:=e) (n:=n) (by omega)
 obtain ⟨h1,h2,h3,h4,h5⟩:=addL_spec (a.neg !=b.neg) (alnR a e n) (alnR b e n) (by rw [l1,l2]) (alnR_dg e n ha) (alnR_dg e n hb)
 refine ⟨?_,trimF_nrm _ h2,by rw [h1,l1]⟩
 rw [(trimF_val _ he).1]
 rw [l1] at h1 h5
  -- the values in units of the exponent
 have va:a.mag=(natD (alnR a e n):Int) * (10:Int) ^ (e+3000).toNat:=by
  unfold Nm.mag
  rw [alnR_val,Int.natCast_mul,Int.natCast_pow,Int.mul_assoc]
  have:(10:Int) ^ (a.ex+3000).toNat=(10:Int) ^ (a.ex - e).toNat * (10:Int) ^ (e+3000).toNat:=by
   rw [← Int.pow_add]; congr 1; omega
  rw [this]; rfl
 have vb:b.mag=(natD (alnR b e n):Int) * (10:Int) ^ (e+3000).toNat:=by
  unfold Nm.mag
  rw [alnR_val,Int.natCast_mul,Int.natCast_pow,Int.mul_assoc]
  have:(10:Int) ^ (b.ex+3000).toNat=(10:Int) ^ (b.ex - e).toNat * (10:Int) ^ (e+3000).toNat:=by
   rw [← Int.pow_add]; congr 1; omega
  rw [this]; rfl
 have hP:(0:Int) < (10:Int) ^ (e+3000).toNat:=Int.pow_pos (by decide)
 have hle:(natD (alnR b e n):Int)≤(natD (alnR a e n):Int):=by
  rw [va,vb] at hm
  exact Int.le_of_mul_le_mul_right hm hP
  -- no carry is left
 have bnd:∀ x:Nm,x.dig.all isDg=true→x.dig.length+(x.ex - e).toNat < n→(natD (alnR x e n):Int) * 10 < (10:Int) ^ n:=fun x hx hl=>by
  have q1:=natD_lt _ hx
  have q2:natD (alnR x e n) < 10 ^ (n - 1):=by
   rw [alnR_val]
   refine Nat.lt_of_lt_of_le (Nat.mul_lt_mul_of_pos_right q1 (p10 _)) ?_
   rw [← Nat.pow_add]
   exact Nat.pow_le_pow_right (by decide) (by omega)
  have q3:10 ^ n=10 ^ (n - 1) * 10:=by rw [← Nat.pow_succ]; congr 1; omega
  have q4:natD (alnR x e n) * 10 < 10 ^ n:=by rw [q3]; omega
  exact_mod_cast q4
 have ba:=bnd a ha la
 have bb:=bnd b hb lb
 have hz:(natD (addL (a.neg !=b.neg) (alnR a e n) (alnR b e n)).1:Int) < (10:Int) ^ n:=by
  have:=natD_lt _ h2
  rw [h1] at this
  exact_mod_cast this
 generalize (addL (a.neg !=b.neg) (alnR a e n) (alnR b e n)).2=cy at *
 generalize (addL (a.neg !=b.neg) (alnR a e n) (alnR b e n)).1=z at *
 have hQ:(0:Int) < (10:Int) ^ n:=Int.pow_pos (by decide)
 generalize (10:Int) ^ n=Q at *
 have hcy:cy=0:=by
  have:cy = -1∨cy=0∨cy=1:=by omega
  rcases this with rfl | rfl | rfl
  ·cases hs:(a.neg !=b.neg) <;> rw [hs] at h5 <;> simp only [if_true,if_false,Bool.false_eq_true] at h5 <;> omega
  ·rfl
  ·cases hs:(a.neg !=b.neg) <;> rw [hs] at h5 <;> simp only [if_true,if_false,Bool.false_eq_true] at h5 <;> omega
 rw [hcy,Int.zero_mul,Int.add_zero] at h5
 have hv:Nm.mag ⟨a.neg,z,e⟩=a.mag+(if (a.neg !=b.neg) then - b.mag else b.mag):=by
  show (natD z:Int) * (10:Int) ^ (e+3000).toNat=_
  rw [h5,va,vb]
  cases hs:(a.neg !=b.neg)
  ·simp only [Bool.false_eq_true,if_false,hs]; rw [Int.add_mul]
  ·simp only [if_true,hs]; rw [Int.add_mul,Int.neg_mul]
 unfold Nm.val
 rw [hv]
 show (if a.neg=true then -(a.mag+_) else a.mag+_)=_
 cases a.neg <;> cases b.neg <;> simp <;> omega
theorem addF_spec {a b:Nm} (ha:Nrm a) (hb:Nrm b) (ea : -1000≤a.ex) (eb : -1000≤b.ex) (la:a.dig.length≤1900) (lb:b.dig.length≤1900):(addF a b).val=a.val+b.val∧Nrm (addF a b):=by
 have hz:nm0.val=0:=by unfold Nm.val; rw [nm0_mag]; rfl
 unfold addF
 by_cases h1:a.dig=[]
 ·rw [if_pos h1,ha.z h1,hz,Int.zero_add]; exact ⟨rfl,hb⟩
 rw [if_neg h1]
 by_cases h2:b.dig=[]
 ·rw [if_pos h2,hb.z h2,hz,Int.add_zero]; exact ⟨rfl,ha⟩
 rw [if_neg h2]
 have hm:=magF_mag ha hb ea eb la lb
 obtain ⟨k1,k2⟩:=aln_ok (a:=a) (b:=b)
 by_cases h3:magF a b < 0
 ·rw [if_pos h3]
  have h4:a.mag - b.mag < 0:=by rw [hm] at h3; exact Int.sign_neg_iff.1 h3
  obtain ⟨r1,r2,_⟩:=add_core (a:=b) (b:=a) (min a.ex b.ex) (lenA a b) hb.dg ha.dg (by omega) (by omega) (by omega) k2 k1 (by omega)
  exact ⟨by rw [r1]; omega,r2⟩
 ·rw [if_neg h3]
  have h4:b.mag≤a.mag:=by
   apply Classical.byContradiction
   intro h
   apply h3
   rw [hm]
   exact Int.sign_neg_iff.2 (by omega)
  obtain ⟨r1,r2,_⟩:=add_core (a:=a) (b:=b) (min a.ex b.ex) (lenA a b) ha.dg hb.dg (by omega) (by omega) (by omega) k1 k2 h4
  exact ⟨r1,r2⟩
end Go.Proofs.YtiekphbkomddfaaGreatDoor.S1
namespace Go.Proofs.YtiekphbkomddfaaGreatDoor.S1
open Go Go.Ab Go.Proofs
def Nm.pe (x:Nm):Int:=if x.dig=[] then 0 else x.fst
def Nm.p (x:Nm):D:= .agg [B x.neg,.str x.dig,I x.pe]
end Go.Proofs.YtiekphbkomddfaaGreatDoor.S1
namespace Go.Proofs.YtiekphbkomddfaaGreatDoor.S1
open Go Go.Ab Go.Proofs
def spanD:Str→Str × Str
 | []=>([],[])
 | c::r=>if isDg c=true then (c::(spanD r).1,(spanD r).2) else ([],c::r)
theorem spanD_app : ∀ q : Str, q = (spanD q).1 ++ (spanD q).2
  | [] => rfl
  | c :: r => by
    rw [spanD]
    split
    · simp only [List.cons_append]; rw [← spanD_app r]
    · rfl
theorem spanD_dg : ∀ q : Str, (spanD q).1.all isDg = true
  | [] => rfl
  | c :: r => by
    rw [spanD]
    split
    · rename_i h; rw [List.all_cons, h, spanD_dg r]; rfl
    · rfl
theorem spanD_len (q:Str):(spanD q).1.length+(spanD q).2.length=q.length:=by
 have:=congrArg List.length (spanD_app q)
 rw [List.length_append] at this; omega
def sgnS:Str→Bool × Str
 | []=>(false,[])
 | c::r=>if c=45 then (true,r) else if c=43 then (false,r) else (false,c::r)
theorem sgnS_len (q : Str) : (sgnS q).2.length ≤ q.length := by
  cases q with
  | nil => exact Nat.le_refl _
  | cons c r =>
    rw [sgnS]
    split
    · simp
    · split <;> simp
structure Rd [Lay] where (neg:Bool) (dig:Str) (fr:Nat) (en:Bool) (ed:Str) (ok:Bool)
def rdE [Lay] (ng:Bool) (dg:Str) (f:Nat):Str→Option Rd
 | []=>some ⟨ng,dg,f,false,[],true⟩
 | c::r=>if c=101∨c=69 then
   (if (spanD (sgnS r).2).1=[] then none else some ⟨ng,dg,f,(sgnS r).1,(spanD (sgnS r).2).1,decide ((spanD (sgnS r).2).2=[])⟩)
  else some ⟨ng,dg,f,false,[],false⟩
def rdF [Lay] (ng:Bool) (dg:Str):Str→Option Rd
 | []=>rdE ng dg 0 []
 | c::r=>if c=46 then (if (spanD r).1=[] then none else rdE ng (dg++(spanD r).1) (spanD r).1.length (spanD r).2) else rdE ng dg 0 (c::r)
def rdP [Lay] (q:Str):Option Rd :=
 if q.length > 64∨(spanD (sgnS q).2).1=[] then none else rdF (sgnS q).1 (spanD (sgnS q).2).1 (spanD (sgnS q).2).2
def expV (cap:Nat) (q:Str):Nat:=q.foldl (fun e c=>min cap (10 * e+dgt c)) 0
theorem expV_gen (cap : Nat) : ∀ (q : Str) (e : Nat), q.foldl (fun e c => min cap (10 * e + dgt c)) (min cap e) = min cap (e * 10 ^ q.length + natD q)
  | [], e => by simp [natD]
  | c :: r, e => by
    have h : min cap (10 * min cap e + dgt c) = min cap (10 * e + dgt c) := by omega
    rw [List.foldl_cons, h, expV_gen cap r, natD, List.length_cons, Nat.pow_succ]
    congr 1
    rw [Nat.add_mul, ← Nat.mul_assoc, Nat.mul_comm 10 e, Nat.mul_right_comm e 10]
    omega
theorem expV_eq (cap:Nat) (q:Str):expV cap q=min cap (natD q):=by
 have:=expV_gen cap q 0
 rw [Nat.min_zero,Nat.zero_mul,Nat.zero_add] at this
 exact this
def Rd.e [Lay] (cap:Nat) (x:Rd):Int:=if x.en then - (expV cap x.ed:Int) else (expV cap x.ed:Int)
def Rd.nm [Lay] (cap:Nat) (x:Rd):Nm:=⟨x.neg,x.dig,x.e cap - x.fr⟩
theorem rdE_len [Lay] {ng : Bool} {dg : Str} {f : Nat} {q : Str} {x : Rd} (h : rdE ng dg f q = some x) : x.dig = dg ∧ x.fr = f ∧ x.neg = ng := by
  cases q with
  | nil => cases h; exact ⟨rfl, rfl, rfl⟩
  | cons c r =>
    rw [rdE] at h
    split at h
    · split at h
      · cases h
      · cases h; exact ⟨rfl, rfl, rfl⟩
    · cases h; exact ⟨rfl, rfl, rfl⟩
theorem rdF_len [Lay] {ng : Bool} {dg q : Str} {x : Rd} (h : rdF ng dg q = some x) (h3 : dg ≠ []) (h4 : dg.all isDg = true) : x.dig ≠ [] ∧ x.dig.all isDg = true := by
  cases q with
  | nil =>
    rw [rdF] at h
    rw [(rdE_len h).1]; exact ⟨h3, h4⟩
  | cons c r =>
    rw [rdF] at h
    split at h
    · split at h
      · cases h
      · rw [(rdE_len h).1]
        exact ⟨by simp [h3], by rw [List.all_append, h4, spanD_dg]; rfl⟩
    · rw [(rdE_len h).1]; exact ⟨h3, h4⟩
theorem rdF_sz [Lay] {ng : Bool} {dg q : Str} {x : Rd} (h : rdF ng dg q = some x) : x.dig.length ≤ dg.length + q.length ∧ x.fr ≤ q.length := by
  cases q with
  | nil =>
    rw [rdF] at h
    obtain ⟨e1, e2, _⟩ := rdE_len h
    rw [e1, e2]; simp
  | cons c r =>
    rw [rdF] at h
    have hs := spanD_len r
    split at h
    · split at h
      · cases h
      · obtain ⟨e1, e2, _⟩ := rdE_len h
        rw [e1, e2, List.length_append, List.length_cons]; omega
    · obtain ⟨e1, e2, _⟩ := rdE_len h
      rw [e1, e2]; simp
theorem rdP_ok [Lay] {q:Str} {x:Rd} (h:rdP q=some x):x.dig≠[]∧x.dig.all isDg=true∧x.dig.length≤64∧x.fr≤64:=by
 unfold rdP at h
 split at h
 ·cases h
 ·rename_i hc
  obtain ⟨c1,c2⟩:=not_or.1 hc
  obtain ⟨s1,s2⟩:=rdF_sz h
  obtain ⟨r1,r2⟩:=rdF_len h c2 (spanD_dg _)
  have:=spanD_len (sgnS q).2
  have:=sgnS_len q
  exact ⟨r1,r2,by omega,by omega⟩
def textF (x:Nm):Option Str :=
 if x.dig=[] then some [48]
 else if x.dig.length > 17∨x.fst < -400∨x.fst > 400 then none
 else some ((if x.neg then [45] else [])++(x.dig.take 1++(if x.dig.length > 1 then [46]++x.dig.drop 1 else []))++[101]++Lib.itoa x.fst)
def canB [Lay] (cap:Nat) (q:Str):Bool:=match rdP q with
 | none=>false
 | some x=>x.ok&&decide (textF (trimF (x.nm cap))=some q)
def canN [Lay] (cap:Nat) (q:Str):Nm:=match rdP q with
 | none=>nm0
 | some x=>trimF (x.nm cap)
theorem nm_trim [Lay] (x:Rd) (cap:Nat):(tR (tL x.dig)=[]∧trimF (x.nm cap)=nm0)∨(tR (tL x.dig)≠[]∧trimF (x.nm cap)=⟨x.neg,tR (tL x.dig),x.e cap - x.fr+((tL x.dig).length - (tR (tL x.dig)).length:Nat)⟩):=by
 unfold trimF Rd.nm
 simp only
 by_cases h:tR (tL x.dig)=[]
 ·rw [if_pos h]; exact .inl ⟨h,rfl⟩
 ·rw [if_neg h]; exact .inr ⟨h,rfl⟩
theorem can_caps [Lay] {c1 c2 : Nat} (h1 : 1000 ≤ c1) (h2 : 1000 ≤ c2) {q : Str} (h : canB c1 q = true) : canB c2 q = true ∧ canN c2 q = canN c1 q := by
  unfold canB canN at *
  cases hr : rdP q with
  | none => rw [hr] at h; cases h
  | some x =>
    rw [hr] at h
    simp only [Bool.and_eq_true] at h ⊢
    obtain ⟨h3, h4⟩ := h
    have h4 := of_decide_eq_true h4
    obtain ⟨r1, r2, r3, r4⟩ := rdP_ok hr
    have key : trimF (x.nm c2) = trimF (x.nm c1) := by
      rcases nm_trim x c1 with ⟨k1, k2⟩ | ⟨k1, k2⟩
      · rcases nm_trim x c2 with ⟨j1, j2⟩ | ⟨j1, j2⟩
        · rw [k2, j2]
        · exact absurd k1 j1
      · rcases nm_trim x c2 with ⟨j1, j2⟩ | ⟨j1, j2⟩
        · exact absurd j1 k1
        · rw [k2, j2]
          rw [k2] at h4
          unfold textF at h4
          rw [if_neg k1] at h4
          have hin : ¬ ((tR (tL x.dig)).length > 17 ∨ Nm.fst ⟨x.neg, tR (tL x.dig), x.e c1 - x.fr + ((tL x.dig).length - (tR (tL x.dig)).length : Nat)⟩ < -400 ∨ Nm.fst ⟨x.neg, tR (tL x.dig), x.e c1 - x.fr + ((tL x.dig).length - (tR (tL x.dig)).length : Nat)⟩ > 400) := fun hc => by
            rw [if_pos hc] at h4; cases h4
          have t1 := tL_len x.dig
          have t2 := tR_len (tL x.dig)
          unfold Nm.fst at hin
          simp only at hin
          have he : x.e c1 = x.e c2 := by
            unfold Rd.e at *
            rw [expV_eq, expV_eq] at *
            cases hn : x.en <;> simp only [hn, if_true, if_false, Bool.false_eq_true] at * <;> omega
          rw [he]
    rw [key]
    exact ⟨⟨h3, decide_eq_true h4⟩, rfl⟩
theorem canB_eq [Lay] {c1 c2:Nat} (h1:1000≤c1) (h2:1000≤c2) (q:Str):canB c1 q=canB c2 q:=by
 rw [Bool.eq_iff_iff]
 exact ⟨fun h=>(can_caps h1 h2 h).1,fun h=>(can_caps h2 h1 h).1⟩
theorem canN_ok [Lay] {c : Nat} {q : Str} (h : canB c q = true) : Nrm (canN c q) ∧ (canN c q).dig.length ≤ 17 ∧ -416 ≤ (canN c q).ex ∧ (canN c q).ex ≤ 400 := by
  unfold canB canN at *
  cases hr : rdP q with
  | none => rw [hr] at h; cases h
  | some x =>
    rw [hr] at h
    simp only [Bool.and_eq_true] at h ⊢
    have h4 := of_decide_eq_true h.2
    obtain ⟨r1, r2, r3, r4⟩ := rdP_ok hr
    have hn := trimF_nrm (x.nm c) r2
    refine ⟨hn, ?_⟩
    generalize trimF (x.nm c) = y at *
    by_cases h0 : y.dig = []
    · rw [hn.z h0]; exact ⟨by decide, by decide, by decide⟩
    · unfold textF at h4
      rw [if_neg h0] at h4
      by_cases hc : y.dig.length > 17 ∨ y.fst < -400 ∨ y.fst > 400
      · rw [if_pos hc] at h4; cases h4
      · unfold Nm.fst at hc
        have := List.length_pos_iff.2 h0
        omega
end Go.Proofs.YtiekphbkomddfaaGreatDoor.S1
namespace Go.Proofs.YtiekphbkomddfaaGreatDoor.S1
open Go Go.Ab Go.Proofs
def minF (x:Nm):Nm:=⟨!x.neg&&decide (x.dig≠[]),x.dig,x.ex⟩
def absF (x:Nm):Nm:=⟨false,x.dig,x.ex⟩
def sigF (x:Nm):Int:=if x.dig=[] then 0 else if x.neg=true then -1 else 1
def cmpF (a b:Nm):Int:=if (sigF a - sigF b).sign≠0 then (sigF a - sigF b).sign else sigF a * magF a b
theorem minF_val {x:Nm} (h:Nrm x):(minF x).val = - x.val∧Nrm (minF x):=by
 by_cases h0:x.dig=[]
 ·have hz:nm0.val=0:=by unfold Nm.val; rw [nm0_mag]; rfl
  have hm:minF nm0=nm0:=rfl
  rw [h.z h0,hm,hz]
  exact ⟨rfl,⟨rfl,by simp [nm0],.inl rfl,fun _=>rfl⟩⟩
 ·have e:minF x=⟨!x.neg,x.dig,x.ex⟩:=by
   unfold minF
   rw [decide_eq_true h0,Bool.and_true]
  rw [e]
  refine ⟨?_,⟨h.dg,h.hd,h.lt,fun hd=>absurd hd h0⟩⟩
  have hm:Nm.mag ⟨!x.neg,x.dig,x.ex⟩=x.mag:=rfl
  unfold Nm.val
  rw [hm]
  cases x.neg <;> simp
theorem absF_val {x:Nm} (h:Nrm x):(absF x).val=x.mag∧Nrm (absF x):=by
 refine ⟨rfl,⟨h.dg,h.hd,h.lt,fun hd=> ?_⟩⟩
 rw [h.z hd]; rfl
theorem sgn3 (x:Int):(x < 0∧x.sign = -1)∨(x=0∧x.sign=0)∨(0 < x∧x.sign=1):=by
 rcases Int.lt_trichotomy x 0 with h | h | h
 ·exact .inl ⟨h,sgn_neg h⟩
 ·exact .inr (.inl ⟨h,by rw [h]; rfl⟩)
 ·exact .inr (.inr ⟨h,sgn_pos h⟩)
structure CN (x:Nm):Prop where
 n:Nrm x
 l:x.dig.length≤17
 e1 : -416≤x.ex
 e2:x.ex≤400
theorem trimF_ex0 (x:Nm):min 0 x.ex≤(trimF x).ex:=by
 unfold trimF
 split
 ·show _≤(0:Int); omega
 ·show _≤x.ex+_; omega
theorem addF_sz {a b:Nm} (ha:CN a) (hb:CN b) : -1000≤(addF a b).ex∧(addF a b).dig.length≤1900:=by
 obtain ⟨a1,a2,a3,a4⟩:=ha
 obtain ⟨b1,b2,b3,b4⟩:=hb
 obtain ⟨k1,k2⟩:=aln_ok (a:=a) (b:=b)
 have hk:lenA a b≤1000:=by unfold lenA Nm.fst; omega
 have l1:=alnR_len (x:=a) (e:=min a.ex b.ex) (n:=lenA a b) (by omega)
 have l2:=alnR_len (x:=b) (e:=min a.ex b.ex) (n:=lenA a b) (by omega)
 unfold addF
 split
 ·omega
 ·split
  ·omega
  ·split
   ·have t1:=trimF_ex0 ⟨b.neg,(addL (b.neg !=a.neg) (alnR b (min a.ex b.ex) (lenA a b)) (alnR a (min a.ex b.ex) (lenA a b))).1,min a.ex b.ex⟩
    have t2:=trimF_len ⟨b.neg,(addL (b.neg !=a.neg) (alnR b (min a.ex b.ex) (lenA a b)) (alnR a (min a.ex b.ex) (lenA a b))).1,min a.ex b.ex⟩
    have t3:=(addL_spec (b.neg !=a.neg) (alnR b (min a.ex b.ex) (lenA a b)) (alnR a (min a.ex b.ex) (lenA a b)) (by rw [l1,l2]) (alnR_dg _ _ b1.dg) (alnR_dg _ _ a1.dg)).1
    simp only at t1 t2
    omega
   ·have t1:=trimF_ex0 ⟨a.neg,(addL (a.neg !=b.neg) (alnR a (min a.ex b.ex) (lenA a b)) (alnR b (min a.ex b.ex) (lenA a b))).1,min a.ex b.ex⟩
    have t2:=trimF_len ⟨a.neg,(addL (a.neg !=b.neg) (alnR a (min a.ex b.ex) (lenA a b)) (alnR b (min a.ex b.ex) (lenA a b))).1,min a.ex b.ex⟩
    have t3:=(addL_spec (a.neg !=b.neg) (alnR a (min a.ex b.ex) (lenA a b)) (alnR b (min a.ex b.ex) (lenA a b)) (by rw [l1,l2]) (alnR_dg _ _ a1.dg) (alnR_dg _ _ b1.dg)).1
    simp only at t1 t2
    omega
theorem CN.min {x:Nm} (h:CN x):CN (minF x):=⟨(minF_val h.n).2,h.l,h.e1,h.e2⟩
def witF (a b t:Nm):Bool:=decide (cmpF (absF (addF a (minF b))) t≤0)
end Go.Proofs.YtiekphbkomddfaaGreatDoor.S1
namespace Go.Proofs
open Go.Shelf
def Tryz.ito_ren:Go.Shelf.Ren:=⟨fun | 171=>120 | 243=>140 | 246=>164 | 283=>176 | 284=>177 | 285=>178 | 286=>179 | 129=>109 | 317=>183 | 318=>184 | 319=>185 | 320=>186 | 337=>187 | 338=>188 | n=>n,fun | 3=>3 | 9=>9 | 2=>2 | 4=>4 | 171=>233 | 0=>0 | 53=>167 | 37=>84 | 5=>5 | 173=>235 | 212=>241 | 51=>165 | 20=>20 | 213=>242 | 46=>123 | 232=>247 | 233=>248 | n=>n,fun | 17=>1 | 18=>4 | 19=>5 | n=>n⟩
theorem Tryz.ito:Go.Proofs.LaysM.n171 Tryz.prog Tryz.ito_ren:={
 mixed:=by kernel_rfl
 f129:=Tryz.func109.trans (congrArg some (by kernel_rfl))
 f171:=Tryz.func120.trans (congrArg some (by kernel_rfl))
 f243:=Tryz.func140.trans (congrArg some (by kernel_rfl))
 f246:=Tryz.func164.trans (congrArg some (by kernel_rfl))
 f283:=Tryz.func176.trans (congrArg some (by kernel_rfl))
 f284:=Tryz.func177.trans (congrArg some (by kernel_rfl))
 f285:=Tryz.func178.trans (congrArg some (by kernel_rfl))
 f286:=Tryz.func179.trans (congrArg some (by kernel_rfl))
 f317:=Tryz.func183.trans (congrArg some (by kernel_rfl))
 f318:=Tryz.func184.trans (congrArg some (by kernel_rfl))
 f319:=Tryz.func185.trans (congrArg some (by kernel_rfl))
 f320:=Tryz.func186.trans (congrArg some (by kernel_rfl))
 f337:=Tryz.func187.trans (congrArg some (by kernel_rfl))
 f338:=Tryz.func188.trans (congrArg some (by kernel_rfl))
 t0:=Tryz.underlying0
 a0:=Tryz.isAgg0
 z0:=Tryz.sizeOf0
 v0:=Tryz.zeroValue0
 t2:=Tryz.underlying2
 a2:=Tryz.isAgg2
 z2:=Tryz.sizeOf2
 v2:=Tryz.zeroValue2
 t3:=Tryz.underlying3
 a3:=Tryz.isAgg3
 z3:=Tryz.sizeOf3
 v3:=Tryz.zeroValue3
 t4:=Tryz.underlying4
 a4:=Tryz.isAgg4
 z4:=Tryz.sizeOf4
 v4:=Tryz.zeroValue4
 t5:=Tryz.underlying5
 a5:=Tryz.isAgg5
 z5:=Tryz.sizeOf5
 v5:=Tryz.zeroValue5
 t9:=Tryz.underlying9
 a9:=Tryz.isAgg9
 z9:=Tryz.sizeOf9
 v9:=Tryz.zeroValue9
 t20:=Tryz.underlying20
 a20:=Tryz.isAgg20
 z20:=Tryz.sizeOf20
 v20:=Tryz.zeroValue20
 t37:=Tryz.underlying84
 a37:=Tryz.isAgg84
 z37:=Tryz.sizeOf84
 v37:=Tryz.zeroValue84
 t46:=Tryz.underlying123
 a46:=Tryz.isAgg123
 z46:=Tryz.sizeOf123
 v46:=Tryz.zeroValue123
 t51:=Tryz.underlying165
 a51:=Tryz.isAgg165
 z51:=Tryz.sizeOf165
 v51:=Tryz.zeroValue165
 t53:=Tryz.underlying167
 a53:=Tryz.isAgg167
 z53:=Tryz.sizeOf167
 v53:=Tryz.zeroValue167
 t171:=Tryz.underlying233
 a171:=Tryz.isAgg233
 z171:=Tryz.sizeOf233
 v171:=Tryz.zeroValue233
 t173:=Tryz.underlying235
 a173:=Tryz.isAgg235
 z173:=Tryz.sizeOf235
 v173:=Tryz.zeroValue235
 t212:=Tryz.underlying241
 a212:=Tryz.isAgg241
 z212:=Tryz.sizeOf241
 v212:=Tryz.zeroValue241
 t213:=Tryz.underlying242
 a213:=Tryz.isAgg242
 z213:=Tryz.sizeOf242
 t232:=Tryz.underlying247
 a232:=Tryz.isAgg247
 z232:=Tryz.sizeOf247
 v232:=Tryz.zeroValue247
 t233:=Tryz.underlying248
 a233:=Tryz.isAgg248
 z233:=Tryz.sizeOf248
 v233:=Tryz.zeroValue248
 g17:=by kernel_rfl
 g18:=by kernel_rfl
 g19:=by kernel_rfl
 i0:=by kernel_rfl
 i2:=by kernel_rfl
 i3:=by kernel_rfl
 i4:=by kernel_rfl
 i5:=by kernel_rfl
 i9:=by kernel_rfl
 i20:=by kernel_rfl
 i37:=by kernel_rfl
 i46:=by kernel_rfl
 i51:=by kernel_rfl
 i53:=by kernel_rfl
 i171:=by kernel_rfl
 i173:=by kernel_rfl
 i212:=by kernel_rfl
 i232:=by kernel_rfl
 i233:=by kernel_rfl
 m17:=by kernel_rfl
 m18:=by kernel_rfl
 m19:=by kernel_rfl}
end Go.Proofs
namespace Go.Proofs.YtiekphbkomddfaaGreatDoor.S1
open Go Go.Ab Go.Proofs
-- nolay
noncomputable def gPow:Nat:=(PP.globalNamed "internal/strconv.uint64pow10").getD 0
theorem gPow_eq:PP.globalNamed "internal/strconv.uint64pow10" = some gPow:=by kernel_rfl
noncomputable def powRow:Array Value:=(Lib.pow10Tab.map fun z=>Value.int .u64 z).toArray
theorem powRow_size:powRow.size=20:=by kernel_rfl
noncomputable abbrev LT10:Lay where
 tab:=fun a=>if a.block=gPow∧a.spot=none then powRow[a.off]? else none
 row:=fun b=>if b=gPow then some powRow else none
 has:=fun b cs h=>by
  split at h
  ·rename_i e
   cases h
   refine ⟨by rw [powRow_size]; omega,fun i hi=>⟨powRow[i],?_⟩⟩
   rw [if_pos ⟨e,rfl⟩,Array.getElem?_eq_getElem hi]
  ·cases h
theorem tabIs_of {g:G} {w:World} (h : @LayOk LT10 g w):Lib.TabIs PP w "internal/strconv.uint64pow10" .u64 Lib.pow10Tab:=by
 obtain ⟨T,fz,h1⟩:=h.2 gPow powRow (if_pos rfl)
 unfold Lib.TabIs World.var?
 rw [gPow_eq]
 simp only [Option.bind_some,h1]
 rfl
theorem layOk_of {g:G} {w:World} (h:Lib.TabIs PP w "internal/strconv.uint64pow10" .u64 Lib.pow10Tab) (hg:∀ b cs T fz i v,w.heap[b]? = some (.cells cs T fz)→cs[i]? = some v→g.σ ⟨b,i,none⟩=some v) : @LayOk LT10 g w:=by
 have h1:∃ T fz,w.heap[gPow]? = some (.cells powRow T fz):=by
  unfold Lib.TabIs World.var? at h
  rw [gPow_eq] at h
  simp only [Option.bind_some] at h
  split at h
  ·rename_i cs T fz e
   cases h
   exact ⟨T,fz,e⟩
  ·cases h
 refine ⟨fun a v e=> ?_,fun b cs e=> ?_⟩
 ·have e':(if a.block=gPow∧a.spot=none then powRow[a.off]? else none)=some v:=e
  split at e'
  ·rename_i hc
   obtain ⟨T,fz,h2⟩:=h1
   have:=hg gPow powRow T fz a.off v h2 e'
   have ha:a=⟨gPow,a.off,none⟩:=by cases a; simp_all
   rw [ha]; exact this
  ·cases e'
 ·have e':(if b=gPow then some powRow else none)=some cs:=e
  split at e'
  ·rename_i hc; cases e'; subst hc; exact h1
  ·cases e'
end Go.Proofs.YtiekphbkomddfaaGreatDoor.S1
namespace Go.Proofs.YtiekphbkomddfaaGreatDoor.S1
open Go Go.Ab Go.Proofs
-- nolay
attribute [local instance] LT10
theorem pureT {f:Nat} {args:List D} {v:D} (ok:Callable PP f) [da:DS args] [dv:DD v] (h:∀ (g:G) (w:World) (vs:List Value),LayOk g w→Rs g args vs→∃ x,R g v x∧Calls PP f vs.toArray w fun e w'=>e = .returned x∧RowKit.Below w.heap.size w w'):Pure PP f args v :=
 ⟨ok,da.p,dv.p,fun g w vs hl sub hs=>by
  obtain ⟨x,hx,hc⟩:=h g w vs hl hs
  refine hc.mono fun e w' ⟨he,hb⟩=>⟨x,g.σ,he,R.mono ⟨fun _ _ h=>h,fun _ _ h=>h,fun _ k h=>⟨k,h,rfl,Nat.le_refl _,fun _=>rfl⟩⟩ _ _ hx,fun _ _ h=>h,fun a y hy=> ?_,fun _ _ h=> .inl h,hb⟩
  obtain ⟨h1,h2⟩:=sub a y hy
  have hl:a.block < w.heap.size:=World.block_lt_of_cell? w a h1
  exact ⟨(cell?_of_heap (hb.block _ hl)).trans h1,h2⟩⟩
theorem c120 (n:Int) (h0 : -9223372036854775808≤n) (h1:n≤9223372036854775807):Pure PP 120 [I n] (.str (Lib.itoa n)):=by
 refine pureT ⟨Tryz.f120,by kernel_rfl,by kernel_rfl,by kernel_rfl⟩ fun g w vs hl h=> ?_
 simp only [Rs,R] at h
 obtain ⟨_,_,rfl,rfl,rfl⟩:=h
 refine ⟨.string ⟨(Lib.itoa n).toArray⟩,by simp only [R,true_and]; have:=Lib.itoa_length_le n h0 h1; unfold strM; omega,?_⟩
 exact (Any.strconv_Itoa Tryz.ito n h0 h1 w (tabIs_of hl)).mono fun e w' ⟨he,k,os,hw⟩=>⟨he,by subst hw; exact Lib.below_grow _ _ (Nat.le_refl _) _ _⟩
end Go.Proofs.YtiekphbkomddfaaGreatDoor.S1
namespace Go.Proofs.YtiekphbkomddfaaGreatDoor.S1
open Go Go.Ab Go.Proofs
theorem F144:OkF 144 Tryz.f144:=⟨by kernel_rfl,by kernel_rfl,by kernel_rfl⟩
def lv144:List (List Nat × List Nat):=[([1,0,0],[0,1])]
noncomputable def nTLBs:List Nat→Nat→Option Ans:=scrAt []
theorem nTLB [Lay] (q:Str) (K:D→Prop):runS (En Tryz.f144) (fi Tryz.f144 K) (nTLBs ) lv144 200 [.code []] ⟨argSlots 0 [L q 1 encB,.int .u8 48],.empty⟩ =
 (At (En Tryz.f144) (fi Tryz.f144 K) [It.code [1,0,0],It.blk 0,It.code [1,1]] {sl:=[(0,L q 1 encB),(1,D.int IntKind.u8 48)],h:=Heap.empty:St}):=by kernel_rfl
def STB (q:Str):St:=⟨[(0,L q 1 encB),(1,.int .u8 48)],.empty⟩
noncomputable def nTLBas:List Nat→Nat→Option Ans:=scrAt []
theorem nTLBa [Lay] (q:Str) (J:St→Prop) (K:D→Prop):runS (En Tryz.f144) (fi Tryz.f144 K) (nTLBas ) lv144 200 [.code [1,0,0,0],stp [0,1] J,.blk 0,.code [1,1]] (STB q) =
 (List.length q≤lenM→(decide ((↑(List.length q):Int) > 0)=true→(0:Int)≤0∧0 < (↑(List.length q):Int))∧bif bif decide ((↑(List.length q):Int) > 0) then (↑(List.getD q 0 default).toNat:Int)==48 else false then ((0:Int)≤1∧1≤(↑(List.length q):Int))∧J {sl:=[(0,.list (List.length q - 1) 1 (dropG (fun i=>encB (List.getD q i default)) 1) .none),(1,D.int IntKind.u8 48)],h:=Heap.empty:St} else List.length q≤lenM→bif (↑(List.length q):Int)==0 then K (.list 0 0 (fun _=>D.junk) .full) else K (L q 1 encB)):=by kernel_rfl
theorem F148:OkF 148 Tryz.f148:=⟨by kernel_rfl,by kernel_rfl,by kernel_rfl⟩
def lv148:List (List Nat × List Nat):=[([1,0,0],[0,1])]
noncomputable def nTRBs:List Nat→Nat→Option Ans:=scrAt []
theorem nTRB [Lay] (q:Str) (K:D→Prop):runS (En Tryz.f148) (fi Tryz.f148 K) (nTRBs ) lv148 200 [.code []] ⟨argSlots 0 [L q 1 encB,.int .u8 48],.empty⟩ =
 (At (En Tryz.f148) (fi Tryz.f148 K) [It.code [1,0,0],It.blk 0,It.code [1,1]] {sl:=[(0,L q 1 encB),(1,D.int IntKind.u8 48)],h:=Heap.empty:St}):=by kernel_rfl
noncomputable def nTRBas:List Nat→Nat→Option Ans:=scrAt []
theorem nTRBa [Lay] (q:Str) (J:St→Prop) (K:D→Prop):runS (En Tryz.f148) (fi Tryz.f148 K) (nTRBas ) lv148 200 [.code [1,0,0,0],stp [0,1] J,.blk 0,.code [1,1]] (STB q) =
 (List.length q≤lenM→(decide ((↑(List.length q):Int) > 0)=true→List.length q≤lenM)→(decide ((↑(List.length q):Int) > 0)=true→0≤subI .i64 (↑(List.length q):Int) 1∧subI .i64 (↑(List.length q):Int) 1 < (↑(List.length q):Int))∧bif bif decide ((↑(List.length q):Int) > 0) then (↑(List.getD q (subI .i64 (↑(List.length q):Int) 1).toNat default).toNat:Int)==48 else false then List.length q≤lenM→((0:Int)≤0∧0≤subI .i64 (↑(List.length q):Int) 1∧subI .i64 (↑(List.length q):Int) 1≤(↑(List.length q):Int))∧J {sl:=[(0,.list ((subI .i64 (↑(List.length q):Int) 1).toNat - 0) 1 (dropG (fun i=>encB (List.getD q i default)) 0) .none),(1,D.int IntKind.u8 48)],h:=Heap.empty:St} else K (L q 1 encB)):=by kernel_rfl
instance ddNm {x:Nm}:DD x.d:=inferInstanceAs (DD (.agg _))
theorem bytesG_drop (q:Str) (k n:Nat) (h:k+n≤q.length):bytesG n (dropG (fun i=>encB (q.getD i default)) k)=(q.drop k).take n:=by
 have hb:∀ b:UInt8,byteD (encB b)=b:=fun b=>by
  show UInt8.ofNat ((b.toNat:Int)).toNat=b
  rw [Int.toNat_natCast,UInt8.ofNat_toNat]
 unfold bytesG
 refine List.ext_getElem (by simp; omega) fun i h1 h2=> ?_
 have hi:i < n:=by simpa using h1
 rw [List.getElem_map,List.getElem_range,List.getElem_take,List.getElem_drop]
 show byteD (encB (q.getD (k+i) default))=_
 rw [hb,List.getD_eq_getElem?_getD,List.getElem?_eq_getElem (by omega)]; rfl
theorem allB_drop (q:Str) (k n:Nat):allByte n (dropG (fun i=>encB (q.getD i default)) k):=fun i _=>⟨q.getD (k+i) default,rfl⟩
theorem Wk.dropL (q:Str) (k n:Nat) (own:Own) (ho:own = .full∨own = .none) (r:Str) (hr:(q.drop k).take n=r) (hn:r.length=n):Wk (.list n 1 (dropG (fun i=>encB (q.getD i default)) k) own) (L r 1 encB):=by
 subst hr
 refine Wk.list hn.symm (.inl rfl) (fun i hi=> ?_) (.inl rfl)
 show encB (q.getD (k+i) default)=encB (((q.drop k).take n).getD i default)
 have h1:i < ((q.drop k).take n).length:=by omega
 rw [List.getD_eq_getElem?_getD,List.getD_eq_getElem?_getD,List.getElem?_take,List.getElem?_drop]
 rw [if_pos (by omega)]
theorem c144 [Lay] (q : Str) : Pure PP 144 [L q 1 encB, .int .u8 48] (L (tL q) 1 encB) := by
  refine pu F144 (by kernel_rfl) (of_eq (nTLB q _) ?_)
  refine lp (fn := Tryz.f144) (fun z : Str => tL q = tL z) (fun z => STB z) (fun z => z.length) [0, 1] (by kernel_rfl) (fun z hz => of_eq (nTLBa z _ _) fun hlm => ⟨fun h => ⟨by omega, by have := of_decide_eq_true h; omega⟩, ?_⟩) q rfl
  cases z with
  | nil =>
    rw [hz]
    exact fun _ => Wk.nilL
  | cons c r =>
    have h1 : decide (((c :: r).length : Int) > 0) = true := decide_eq_true (by rw [List.length_cons]; omega)
    rw [h1]
    refine cond_intro (fun h => ⟨⟨by omega, by simp; omega⟩, Nx.of r ?_ (by simp) ?_⟩) fun h => fun _ => ?_
    · have h : ((c.toNat : Int) == 48) = true := h
      have hc : c = 48 := UInt8.toNat_inj.1 (by have := eq_of_beq h; show c.toNat = 48; omega)
      rw [hz, tL, if_pos hc]
    · exact StLe.set 0 rfl (Wk.dropL (c :: r) 1 _ _ (.inr rfl) r (by simp) (by simp)) rfl rfl
    · have h : ((c.toNat : Int) == 48) = false := h
      have hc : c ≠ 48 := fun e => by rw [e] at h; exact absurd h (by decide)
      rw [hz, tL, if_neg hc]
      refine cond_intro (fun h => ?_) fun _ => Wk.refl _
      have := eq_of_beq h
      simp at this; omega
theorem tR_snoc (r:Str) (c:UInt8):tR (r++[c])=if c=48 then tR r else r++[c]:=by
 unfold tR
 rw [List.reverse_append,List.reverse_singleton,List.singleton_append,tL]
 split
 ·rfl
 ·rw [List.reverse_cons,List.reverse_reverse]
theorem c148 [Lay] (q:Str):Pure PP 148 [L q 1 encB,.int .u8 48] (L (tR q) 1 encB):=by
 refine pu F148 (by kernel_rfl) (of_eq (nTRB q _) ?_)
 refine lp (fn:=Tryz.f148) (fun z:Str=>tR q=tR z) (fun z=>STB z) (fun z=>z.length) [0,1] (by kernel_rfl) (fun z hz=>of_eq (nTRBa z _ _) fun hlm=> ?_) q rfl
 rcases List.eq_nil_or_concat z with rfl | ⟨r,c,rfl⟩
 ·rw [hz]
  exact fun _=>⟨fun h=>absurd (of_decide_eq_true h) (by simp),Wk.refl _⟩
 ·rw [List.concat_eq_append] at hz hlm ⊢
  have hl:(r++[c]).length=r.length+1:=by simp
  have h1:decide (((r++[c]).length:Int) > 0)=true:=decide_eq_true (by omega)
  have h2:subI .i64 ((r++[c]).length:Int) 1=(r.length:Int):=by rw [sub64 (by unfold lenM at hlm; omega) (by unfold lenM at hlm; omega)]; omega
  have h3:(r++[c]).getD r.length default=c:=by simp [List.getD]
  rw [h1,h2,Int.toNat_natCast,h3]
  refine fun _=>⟨fun _=>⟨by omega,by omega⟩,cond_intro (fun h=>fun _=>⟨⟨by omega,by omega,by omega⟩,Nx.of r ?_ (by omega) ?_⟩) fun h=> ?_⟩
  ·have h:((c.toNat:Int)==48)=true:=h
   have hc:c=48:=UInt8.toNat_inj.1 (by have:=eq_of_beq h; show c.toNat=48; omega)
   rw [hz,tR_snoc,if_pos hc]
  ·exact StLe.set 0 rfl (Wk.dropL (r++[c]) 0 _ _ (.inr rfl) r (by simp) (by simp)) rfl rfl
  ·have h:((c.toNat:Int)==48)=false:=h
   have hc:c≠48:=fun e=>by rw [e] at h; exact absurd h (by decide)
   rw [hz,tR_snoc,if_neg hc]
   exact Wk.refl _
theorem F123:OkF 123 Tryz.f123:=⟨by kernel_rfl,by kernel_rfl,by kernel_rfl⟩
def lv123:List (List Nat × List Nat):=[]
noncomputable def nTLs (q:Str):List Nat→Nat→Option Ans:=scrAt [([1,1,1,0,1,0,0],3,Ans.pure [L q 1 encB,D.int IntKind.u8 48] (L (tL q) 1 encB))]
theorem nTL [Lay] (q:Str) (K:D→Prop):runS (En Tryz.f123) (fi Tryz.f123 K) (nTLs q) lv123 200 [.code []] ⟨argSlots 0 [L q 1 encB,.str [48]],.empty⟩ =
 (List.length q≤lenM→bif (↑(List.length q):Int)==0 then K (.list 0 0 (fun _=>D.junk) .full) else 1≤strM→(true=true→(0:Int)≤0∧0 < (↑1:Int))∧((0:Int)≤0∧0 < (↑1:Int))∧PureW PP 144 [L q 1 encB,D.int IntKind.u8 48] [L q 1 encB,D.int IntKind.u8 48] (L (tL q) 1 encB)∧K (L (tL q) 1 encB)):=by kernel_rfl
theorem F124:OkF 124 Tryz.f124:=⟨by kernel_rfl,by kernel_rfl,by kernel_rfl⟩
def lv124:List (List Nat × List Nat):=[]
noncomputable def nTRs (q:Str):List Nat→Nat→Option Ans:=scrAt [([1,1,0,1,0,0],3,Ans.pure [L q 1 encB,D.int IntKind.u8 48] (L (tR q) 1 encB))]
theorem nTR [Lay] (q:Str) (K:D→Prop):runS (En Tryz.f124) (fi Tryz.f124 K) (nTRs q) lv124 200 [.code []] ⟨argSlots 0 [L q 1 encB,.str [48]],.empty⟩ =
 (List.length q≤lenM→bif bif (↑(List.length q):Int)==0 then true else false then K (L q 1 encB) else 1≤strM→(true=true→(0:Int)≤0∧0 < (↑1:Int))∧((0:Int)≤0∧0 < (↑1:Int))∧PureW PP 148 [L q 1 encB,D.int IntKind.u8 48] [L q 1 encB,D.int IntKind.u8 48] (L (tR q) 1 encB)∧K (L (tR q) 1 encB)):=by kernel_rfl
theorem c123 [Lay] (q:Str):Pure PP 123 [L q 1 encB,.str [48]] (L (tL q) 1 encB):=by
 refine pu F123 (by kernel_rfl) (of_eq (nTL q _) fun _=>cond_intro (fun h=> ?_) fun _=>fun _=>⟨fun _=>⟨by omega,by omega⟩,⟨by omega,by omega⟩,PureW.mk (c144 q),Wk.refl _⟩)
 have h0:q=[]:=List.eq_nil_of_length_eq_zero (by have:=eq_of_beq h; omega)
 rw [h0]; exact Wk.nilL
theorem c124 [Lay] (q:Str):Pure PP 124 [L q 1 encB,.str [48]] (L (tR q) 1 encB):=by
 refine pu F124 (by kernel_rfl) (of_eq (nTR q _) fun _=>cond_intro (fun h=> ?_) fun _=>fun _=>⟨fun _=>⟨by omega,by omega⟩,⟨by omega,by omega⟩,PureW.mk (c148 q),Wk.refl _⟩)
 have h0:q=[]:=List.eq_nil_of_length_eq_zero (by
  cases hx:((q.length:Int)==0) with
  | true=>have:=eq_of_beq hx; omega
  | false=>rw [hx] at h; cases h)
 rw [h0]; exact Wk.refl _
theorem F125:OkF 125 Tryz.f125:=⟨by kernel_rfl,by kernel_rfl,by kernel_rfl⟩
def lv125:List (List Nat × List Nat):=[]
noncomputable def nNans:List Nat→Nat→Option Ans:=scrAt []
theorem nNan [Lay] (a:Int) (K:D→Prop):runS (En Tryz.f125) (fi Tryz.f125 K) (nNans ) lv125 200 [.code []] ⟨argSlots 0 [I a],.empty⟩ =
 (K (B (a !=a))):=by kernel_rfl
theorem c125 [Lay] (a:Int):Pure PP 125 [I a] (B false):=pu F125 (by kernel_rfl) (of_eq (nNan a _) (by
 have:(a !=a)=false:=by simp
 rw [this]; exact Wk.refl _))
theorem F72:OkF 72 Tryz.f72:=⟨by kernel_rfl,by kernel_rfl,by kernel_rfl⟩
def lv72:List (List Nat × List Nat):=[]
noncomputable def nCms (a:Int) (b:Int):List Nat→Nat→Option Ans:=scrAt [([1,0],1,Ans.pure [I a] (B false)),([1,1,0],1,Ans.pure [I b] (B false))]
theorem nCm [Lay] (a b:Int) (K:D→Prop):runS (En Tryz.f72) (fi Tryz.f72 K) (nCms a b) lv72 200 [.code []] ⟨argSlots 0 [I a,I b],.empty⟩ =
 (PureW PP 125 [I a] [I a] (B false)∧PureW PP 125 [I b] [I b] (B false)∧bif decide (a < b) then K (I (-1)) else bif decide (a > b) then K (I 1) else K (I 0)):=by kernel_rfl
theorem c72 [Lay] (a b:Int):Pure PP 72 [I a,I b] (I (a - b).sign):=by
 refine pu F72 (by kernel_rfl) (of_eq (nCm a b _) ⟨PureW.mk (c125 a),PureW.mk (c125 b),cond_intro (fun h=> ?_) fun h=>cond_intro (fun h2=> ?_) fun h2=> ?_⟩)
 ·have:=of_decide_eq_true h
  rw [sgn_neg (by omega)]; exact Wk.refl _
 ·have:=of_decide_eq_true h2
  rw [sgn_pos (by omega)]; exact Wk.refl _
 ·have h1:=of_decide_eq_false h
  have h2:=of_decide_eq_false h2
  rw [show a - b=0 by omega]; exact Wk.refl _
theorem F71:OkF 71 Tryz.f71:=⟨by kernel_rfl,by kernel_rfl,by kernel_rfl⟩
def lv71:List (List Nat × List Nat):=[]
noncomputable def nTrms (x:Nm):List Nat→Nat→Option Ans:=scrAt [([1,0],2,Ans.pure [L x.dig 1 encB,.str [48]] (L (tL x.dig) 1 encB)),([1,1,0],2,Ans.pure [L (tL x.dig) 1 encB,.str [48]] (L (tR (tL x.dig)) 1 encB))]
theorem nTrm [Lay] (x:Nm) (K:D→Prop):runS (En Tryz.f71) (fi Tryz.f71 K) (nTrms x) lv71 200 [.code []] ⟨argSlots 0 [x.d],.empty⟩ =
 (PureW PP 123 [L x.dig 1 encB,.str [48]] [L x.dig 1 encB,.str [48]] (L (tL x.dig) 1 encB)∧True∧PureW PP 124 [L (tL x.dig) 1 encB,.str [48]] [L (tL x.dig) 1 encB,.str [48]] (L (tR (tL x.dig)) 1 encB)∧(List.length (tR (tL x.dig))≤lenM→List.length (tL x.dig)≤lenM→True∧((0:Int)≤0∧0≤(↑(List.length (tR (tL x.dig))):Int)∧(↑(List.length (tR (tL x.dig))):Int)≤(↑(List.length (tL x.dig)):Int)∧(↑(List.length (tR (tL x.dig))):Int)=(↑(List.length (tR (tL x.dig))):Int))∧True∧bif (↑(List.length (tR (tL x.dig))):Int)==0 then True∧K (.agg [B false,.list 0 0 (fun _=>D.junk) .full,I 0]) else True∧K (.agg [B x.neg,.list ((↑(List.length (tR (tL x.dig))):Int).toNat - 0) 1 (dropG (fun i=>encB (List.getD (tL x.dig) i default)) 0) .full,I (addI .i64 x.ex (subI .i64 (↑(List.length (tL x.dig)):Int) (↑(List.length (tR (tL x.dig))):Int)))]))):=by kernel_rfl
theorem tR_take (q:Str):q.take (tR q).length=tR q:=by
 obtain ⟨n,h,_⟩:=tR_spec q
 conv=>lhs; rw [h]
 rw [List.take_left']
 exact congrArg List.length (by rw [← h])
theorem c71 [Lay] (x:Nm) (hl:x.dig.length≤1000000) (h1 : -1000000000≤x.ex) (h2:x.ex≤1000000000):Pure PP 71 [x.d] (trimF x).d:=by
 have t1:=tL_len x.dig
 have t2:=tR_len (tL x.dig)
 refine pu F71 (by kernel_rfl) (of_eq (nTrm x _) ⟨PureW.mk (c123 _),trivial,PureW.mk (c124 _),fun _=>fun _=>⟨trivial,⟨by omega,by omega,by omega,rfl⟩,trivial,cond_intro (fun h=>⟨trivial,?_⟩) fun h=>⟨trivial,?_⟩⟩⟩)
 ·have h0:tR (tL x.dig)=[]:=List.eq_nil_of_length_eq_zero (by have:=eq_of_beq h; omega)
  unfold trimF
  rw [if_pos h0]
  exact Wk.agg (Wks.cons (Wk.refl _) (Wks.cons Wk.nilL (Wks.refl _)))
 ·have h0:tR (tL x.dig)≠[]:=fun e=>by rw [e] at h; exact absurd h (by decide)
  unfold trimF
  rw [if_neg h0,Int.toNat_natCast,Nat.sub_zero]
  rw [sub64 (by omega) (by omega),add64 (by omega) (by omega),show x.ex+((tL x.dig).length - (tR (tL x.dig)).length:Int)=x.ex+(((tL x.dig).length - (tR (tL x.dig)).length:Nat):Int) by omega]
  exact Wk.agg (Wks.cons (Wk.refl _) (Wks.cons (Wk.dropL (tL x.dig) 0 _ _ (.inl rfl) _ (by rw [List.drop_zero,tR_take]) rfl) (Wks.refl _)))
theorem F68:OkF 68 Tryz.f68:=⟨by kernel_rfl,by kernel_rfl,by kernel_rfl⟩
def lv68:List (List Nat × List Nat):=[]
noncomputable def nNfs:List Nat→Nat→Option Ans:=scrAt []
theorem nNf [Lay] (x:Nm) (K:D→Prop):runS (En Tryz.f68) (fi Tryz.f68 K) (nNfs ) lv68 200 [.code []] ⟨argSlots 0 [x.d],.empty⟩ =
 (List.length x.dig≤lenM→K (I (subI .i64 (addI .i64 x.ex (↑(List.length x.dig):Int)) 1))):=by kernel_rfl
theorem c68 [Lay] (x:Nm) (h1 : -2000000000≤x.ex) (h2:x.ex≤2000000000) (hl:x.dig.length≤1000000):Pure PP 68 [x.d] (I x.fst) :=
 pu F68 (by kernel_rfl) (of_eq (nNf x _) fun _=>by
  rw [add64 (by omega) (by omega),sub64 (by omega) (by omega)]; exact Wk.refl _)
theorem F65:OkF 65 Tryz.f65:=⟨by kernel_rfl,by kernel_rfl,by kernel_rfl⟩
def lv65:List (List Nat × List Nat):=[]
noncomputable def nNss:List Nat→Nat→Option Ans:=scrAt []
theorem nNs [Lay] (x:Nm) (K:D→Prop):runS (En Tryz.f65) (fi Tryz.f65 K) (nNss ) lv65 200 [.code []] ⟨argSlots 0 [x.d],.empty⟩ =
 (List.length x.dig≤lenM→bif (↑(List.length x.dig):Int)==0 then K (I 0) else bif x.neg then K (I (-1)) else K (I 1)):=by kernel_rfl
theorem len0 (q : Str) : ((q.length : Int) == 0) = decide (q = []) := by
  cases q with
  | nil => rfl
  | cons c r =>
    have : ((((c :: r).length : Nat) : Int) == 0) = false := by
      rw [beq_eq_false_iff_ne]; simp; omega
    rw [this]; rfl
theorem c65 [Lay] (x:Nm):Pure PP 65 [x.d] (I (sigF x)):=by
 refine pu F65 (by kernel_rfl) (of_eq (nNs x _) fun _=> ?_)
 unfold sigF
 rw [len0]
 refine cond_intro (fun h=> ?_) fun h=> ?_
 ·rw [if_pos (of_decide_eq_true h)]; exact Wk.refl _
 ·rw [if_neg (of_decide_eq_false h)]
  cases x.neg
  ·exact Wk.refl _
  ·exact Wk.refl _
theorem F44:OkF 44 Tryz.f44:=⟨by kernel_rfl,by kernel_rfl,by kernel_rfl⟩
def lv44:List (List Nat × List Nat):=[]
noncomputable def nNms:List Nat→Nat→Option Ans:=scrAt []
theorem nNm [Lay] (x:Nm) (K:D→Prop):runS (En Tryz.f44) (fi Tryz.f44 K) (nNms ) lv44 200 [.code []] ⟨argSlots 0 [x.d],.empty⟩ =
 (((!x.neg)=true→List.length x.dig≤lenM)→True∧True∧K (.agg [B (bif !x.neg then decide ((↑(List.length x.dig):Int) > 0) else false),L x.dig 1 encB,I x.ex])):=by kernel_rfl
theorem c44 [Lay] (x:Nm):Pure PP 44 [x.d] (minF x).d:=by
 refine pu F44 (by kernel_rfl) (of_eq (nNm x _) fun _=>⟨trivial,trivial,?_⟩)
 have:(bif !x.neg then decide ((x.dig.length:Int) > 0) else false)=(minF x).neg:=by
  unfold minF
  have:decide ((x.dig.length:Int) > 0)=decide (x.dig≠[]):=decide_eq_decide.2 ⟨fun h e=>by rw [e] at h; simp at h,fun h=>by have:=List.length_pos_iff.2 h; omega⟩
  rw [this]
  cases x.neg <;> rfl
 rw [this]; exact Wk.refl _
end Go.Proofs.YtiekphbkomddfaaGreatDoor.S1
namespace Go.Proofs.YtiekphbkomddfaaGreatDoor.S1
open Go Go.Ab Go.Proofs
-- nolay
attribute [local instance] LT10
theorem F67:OkF 67 Tryz.f67:=⟨by kernel_rfl,by kernel_rfl,by kernel_rfl⟩
def lv67:List (List Nat × List Nat):=[]
noncomputable def nTxts (x:Nm):List Nat→Nat→Option Ans:=scrAt [([1,1,0,0],6,Ans.pure [x.d] (I x.fst)),([1,1,0,0],11,Ans.pure [x.d] (I x.fst)),([1,1,1,1,1,1,0],3,Ans.pure [x.d] (I x.fst)),([1,1,1,1,1,1,0],4,Ans.pure [I x.fst] (.str (Lib.itoa x.fst)))]
theorem nTxt (x : Nm) (K : D → Prop) : runS (En Tryz.f67) (fi Tryz.f67 K) (nTxts x) lv67 200 [.code []] ⟨argSlots 0 [x.d], .empty⟩ =
  (List.length x.dig ≤ lenM →
  bif (↑(List.length x.dig) : Int) == 0 then K (.tup [.str { data := #[48] : ByteArray }.data.toList, I 0])
  else
    List.length x.dig ≤ lenM →
      ((!decide ((↑(List.length x.dig) : Int) > 17)) = true → PureW PP 68 [x.d] [x.d] (I x.fst)) ∧
        ((!bif decide ((↑(List.length x.dig) : Int) > 17) then true else decide (x.fst < -400)) = true → PureW PP 68 [x.d] [x.d] (I x.fst)) ∧
          bif bif bif decide ((↑(List.length x.dig) : Int) > 17) then true else decide (x.fst < -400) then true else decide (x.fst > 400) then K (.tup [.str { data := #[] : ByteArray }.data.toList, I 9])
          else
            ((0 : Int) ≤ 0 ∧ (0 : Int) ≤ 1 ∧ 1 ≤ (↑(List.length x.dig) : Int)) ∧
              allByte 1 (dropG (fun i => encB (List.getD x.dig i default)) 0) ∧
                (List.length x.dig ≤ lenM →
                  bif decide ((↑(List.length x.dig) : Int) > 1) then
                    ((0 : Int) ≤ 1 ∧ 1 ≤ (↑(List.length x.dig) : Int)) ∧
                      allByte (List.length x.dig - 1) (dropG (fun i => encB (List.getD x.dig i default)) 1) ∧
                        1 + (bytesG (List.length x.dig - 1) (dropG (fun i => encB (List.getD x.dig i default)) 1)).length ≤ strM ∧
                          (bytesG 1 (dropG (fun i => encB (List.getD x.dig i default)) 0)).length + ({ data := #[46] : ByteArray }.data.toList ++ bytesG (List.length x.dig - 1) (dropG (fun i => encB (List.getD x.dig i default)) 1)).length ≤ strM ∧
                            bif x.neg then 1 + (bytesG 1 (dropG (fun i => encB (List.getD x.dig i default)) 0) ++ ({ data := #[46] : ByteArray }.data.toList ++ bytesG (List.length x.dig - 1) (dropG (fun i => encB (List.getD x.dig i default)) 1))).length ≤ strM ∧ ({ data := #[45] : ByteArray }.data.toList ++ (bytesG 1 (dropG (fun i => encB (List.getD x.dig i default)) 0) ++ ({ data := #[46] : ByteArray }.data.toList ++ bytesG (List.length x.dig - 1) (dropG (fun i => encB (List.getD x.dig i default)) 1)))).length + 1 ≤ strM ∧ PureW PP 68 [x.d] [x.d] (I x.fst) ∧ PureW PP 120 [I x.fst] [I x.fst] (.str (Lib.itoa x.fst)) ∧ ({ data := #[45] : ByteArray }.data.toList ++ (bytesG 1 (dropG (fun i => encB (List.getD x.dig i default)) 0) ++ ({ data := #[46] : ByteArray }.data.toList ++ bytesG (List.length x.dig - 1) (dropG (fun i => encB (List.getD x.dig i default)) 1))) ++ { data := #[101] : ByteArray }.data.toList).length + (Lib.itoa x.fst).length ≤ strM ∧ K (.tup [.str ({ data := #[45] : ByteArray }.data.toList ++ (bytesG 1 (dropG (fun i => encB (List.getD x.dig i default)) 0) ++ ({ data := #[46] : ByteArray }.data.toList ++ bytesG (List.length x.dig - 1) (dropG (fun i => encB (List.getD x.dig i default)) 1))) ++ { data := #[101] : ByteArray }.data.toList ++ Lib.itoa x.fst), I 0])
                            else (bytesG 1 (dropG (fun i => encB (List.getD x.dig i default)) 0) ++ ({ data := #[46] : ByteArray }.data.toList ++ bytesG (List.length x.dig - 1) (dropG (fun i => encB (List.getD x.dig i default)) 1))).length + 1 ≤ strM ∧ PureW PP 68 [x.d] [x.d] (I x.fst) ∧ PureW PP 120 [I x.fst] [I x.fst] (.str (Lib.itoa x.fst)) ∧ (bytesG 1 (dropG (fun i => encB (List.getD x.dig i default)) 0) ++ ({ data := #[46] : ByteArray }.data.toList ++ bytesG (List.length x.dig - 1) (dropG (fun i => encB (List.getD x.dig i default)) 1)) ++ { data := #[101] : ByteArray }.data.toList).length + (Lib.itoa x.fst).length ≤ strM ∧ K (.tup [.str (bytesG 1 (dropG (fun i => encB (List.getD x.dig i default)) 0) ++ ({ data := #[46] : ByteArray }.data.toList ++ bytesG (List.length x.dig - 1) (dropG (fun i => encB (List.getD x.dig i default)) 1)) ++ { data := #[101] : ByteArray }.data.toList ++ Lib.itoa x.fst), I 0])
                  else bif x.neg then 1 + (bytesG 1 (dropG (fun i => encB (List.getD x.dig i default)) 0)).length ≤ strM ∧ ({ data := #[45] : ByteArray }.data.toList ++ bytesG 1 (dropG (fun i => encB (List.getD x.dig i default)) 0)).length + 1 ≤ strM ∧ PureW PP 68 [x.d] [x.d] (I x.fst) ∧ PureW PP 120 [I x.fst] [I x.fst] (.str (Lib.itoa x.fst)) ∧ ({ data := #[45] : ByteArray }.data.toList ++ bytesG 1 (dropG (fun i => encB (List.getD x.dig i default)) 0) ++ { data := #[101] : ByteArray }.data.toList).length + (Lib.itoa x.fst).length ≤ strM ∧ K (.tup [.str ({ data := #[45] : ByteArray }.data.toList ++ bytesG 1 (dropG (fun i => encB (List.getD x.dig i default)) 0) ++ { data := #[101] : ByteArray }.data.toList ++ Lib.itoa x.fst), I 0]) else (bytesG 1 (dropG (fun i => encB (List.getD x.dig i default)) 0)).length + 1 ≤ strM ∧ PureW PP 68 [x.d] [x.d] (I x.fst) ∧ PureW PP 120 [I x.fst] [I x.fst] (.str (Lib.itoa x.fst)) ∧ (bytesG 1 (dropG (fun i => encB (List.getD x.dig i default)) 0) ++ { data := #[101] : ByteArray }.data.toList).length + (Lib.itoa x.fst).length ≤ strM ∧ K (.tup [.str (bytesG 1 (dropG (fun i => encB (List.getD x.dig i default)) 0) ++ { data := #[101] : ByteArray }.data.toList ++ Lib.itoa x.fst), I 0]))) := by kernel_rfl
def txtV (x:Nm):Str × Int:=match textF x with
 | some q=>(q,0)
 | none=>([],9)
theorem itoa_len {n:Int} (h0 : -2000000≤n) (h1:n≤2000000):(Lib.itoa n).length≤100:=by
 have:=Lib.itoa_length_le n (by omega) (by omega)
 omega
theorem c67 (x:Nm) (hl:x.dig.length≤1000000) (h1 : -2000000000≤x.ex) (h2:x.ex≤2000000000):Pure PP 67 [x.d] (.tup [.str (txtV x).1,I (txtV x).2]):=by
 have e48:({data:= #[48]:ByteArray}.data.toList:Str)=[48]:=rfl
 have e0:({data:= #[]:ByteArray}.data.toList:Str)=[]:=rfl
 have e46:({data:= #[46]:ByteArray}.data.toList:Str)=[46]:=rfl
 have e45:({data:= #[45]:ByteArray}.data.toList:Str)=[45]:=rfl
 have e101:({data:= #[101]:ByteArray}.data.toList:Str)=[101]:=rfl
 refine pu F67 (by kernel_rfl) (of_eq (nTxt x _) fun _=> ?_)
 rw [len0]
 refine cond_intro (fun h=> ?_) fun h=>fun _=>⟨fun _=>PureW.mk (c68 x h1 h2 hl),fun _=>PureW.mk (c68 x h1 h2 hl),?_⟩
 ·have h:=of_decide_eq_true h
  unfold txtV textF
  rw [if_pos h]; exact Wk.refl _
 have h0:=of_decide_eq_false h
 have hb:(bif bif decide ((x.dig.length:Int) > 17) then true else decide (x.fst < -400) then true else decide (x.fst > 400))=decide (x.dig.length > 17∨x.fst < -400∨x.fst > 400):=by
  rw [Bool.eq_iff_iff]; simp [or_assoc]; omega
 rw [hb]
 refine cond_intro (fun h=> ?_) fun h=> ?_
 ·have h:=of_decide_eq_true h
  unfold txtV textF
  rw [if_neg h0,if_pos h]; exact Wk.refl _
 have hc:=of_decide_eq_false h
 have hp:=List.length_pos_iff.2 h0
 have hfst:Pure PP 68 [x.d] (I x.fst):=c68 x h1 h2 hl
 have hit:Pure PP 120 [I x.fst] (.str (Lib.itoa x.fst)):=c120 x.fst (by omega) (by omega)
 have hil:=itoa_len (n:=x.fst) (by omega) (by omega)
 have g1:bytesG 1 (dropG (fun i=>encB (x.dig.getD i default)) 0)=x.dig.take 1:=by rw [bytesG_drop _ _ _ (by omega),List.drop_zero]
 have hT:txtV x=((if x.neg then [45] else [])++(x.dig.take 1++(if x.dig.length > 1 then [46]++x.dig.drop 1 else []))++[101]++Lib.itoa x.fst,0):=by
  unfold txtV textF
  rw [if_neg h0,if_neg hc]
 have l1:(x.dig.take 1).length=1:=by rw [List.length_take]; omega
 rw [hT,g1,e46,e45,e101]
 refine ⟨⟨by omega,by omega,by omega⟩,allB_drop _ _ _,fun _=>cond_intro (fun h=> ?_) fun h=> ?_⟩
 ·have h3:x.dig.length > 1:=by have:=of_decide_eq_true h; omega
  have g2:bytesG (x.dig.length - 1) (dropG (fun i=>encB (x.dig.getD i default)) 1)=x.dig.drop 1:=by
   rw [bytesG_drop _ _ _ (by omega)]
   exact List.take_of_length_le (by rw [List.length_drop]; omega)
  have l2:(x.dig.drop 1).length≤1000000:=by rw [List.length_drop]; omega
  rw [g2,if_pos h3]
  refine ⟨⟨by omega,by omega⟩,allB_drop _ _ _,by unfold strM; omega,by simp only [List.length_append,List.length_singleton]; unfold strM; omega,?_⟩
  cases x.neg
  ·refine ⟨by simp only [List.length_append,List.length_singleton]; unfold strM; omega,PureW.mk hfst,PureW.mk hit,by simp only [List.length_append,List.length_singleton]; unfold strM; omega,Wk.refl _⟩
  ·refine ⟨by simp only [List.length_append,List.length_singleton]; unfold strM; omega,by simp only [List.length_append,List.length_singleton]; unfold strM; omega,PureW.mk hfst,PureW.mk hit,by simp only [List.length_append,List.length_singleton]; unfold strM; omega,Wk.refl _⟩
 ·have h3:¬ x.dig.length > 1:=by have:=of_decide_eq_false h; omega
  rw [if_neg h3,List.append_nil]
  cases x.neg
  ·refine ⟨by rw [l1]; unfold strM; omega,PureW.mk hfst,PureW.mk hit,by simp only [List.length_append,List.length_singleton]; unfold strM; omega,Wk.refl _⟩
  ·refine ⟨by rw [l1]; unfold strM; omega,by simp only [List.length_append,List.length_singleton]; unfold strM; omega,PureW.mk hfst,PureW.mk hit,by simp only [List.length_append,List.length_singleton]; unfold strM; omega,Wk.refl _⟩
end Go.Proofs.YtiekphbkomddfaaGreatDoor.S1
namespace Go.Proofs.YtiekphbkomddfaaGreatDoor.S1
open Go Go.Ab Go.Proofs
def hSc (q:Str) (a:Int):Heap:=⟨upd (upd (fun _=>none) 0 (some (.lit [.str q]))) 1 (some (.lit [I a])),2,fun _=>none,0,fun _=>none⟩
theorem F118:OkF 118 Tryz.f118:=⟨by kernel_rfl,by kernel_rfl,by kernel_rfl⟩
def lv118:List (List Nat × List Nat):=[([1,0,1,0],[0,1,2,7,8])]
noncomputable def nOnes:List Nat→Nat→Option Ans:=scrAt []
theorem nOne [Lay] (e q:Str) (a:Int) (K:D→Heap→Prop):runS (En Tryz.f118) (fh Tryz.f118 K) (nOnes ) lv118 200 [.code []] ⟨argSlots 0 [.str e,.bp 1 0,.bp 0 0],hSc q a⟩ =
 (List.length e≤strM→At (En Tryz.f118) (fh Tryz.f118 K) [It.code [1,0,1,0],It.blk 0,It.code [1,1]] {sl:=[(0,.str e),(1,D.bp 1 0),(2,D.bp 0 0),(7,I (↑(List.length e):Int)),(8,I 0)],h:={box:=upd (upd (fun _=>none) 0 (some (Row.lit [.str q]))) 1 (some (Row.lit [I a])),nl:=2,hw:=fun _=>none,nt:=0,vw:=fun _=>none:Heap}:St}):=by kernel_rfl
def SOn (e q:Str) (a i:Int):St:=⟨[(0,.str e),(1,.bp 1 0),(2,.bp 0 0),(7,I e.length),(8,I i)],hSc q a⟩
noncomputable def nOneas:List Nat→Nat→Option Ans:=scrAt []
theorem nOnea [Lay] (e q:Str) (a i:Int) (J:St→Prop) (K:D→Heap→Prop):runS (En Tryz.f118) (fh Tryz.f118 K) (nOneas ) lv118 200 [.code [1,0,1,0,0],stp [0,1,2,7,8] J,.blk 0,.code [1,1]] (SOn e q a i) =
 (bif decide (i < (↑(List.length e):Int)) then List.length q≤strM→(decide (a < (↑(List.length q):Int))=true→0≤a∧a < (↑(List.length q):Int))∧(decide (a < (↑(List.length q):Int))=true→0≤i∧i < (↑(List.length e):Int))∧bif bif decide (a < (↑(List.length q):Int)) then (↑(List.getD q a.toNat 0).toNat:Int)==(↑(List.getD e i.toNat 0).toNat:Int) else false then True∧K (B true) {box:=upd (upd (upd (fun _=>none) 0 (some (Row.lit [.str q]))) 1 (some (Row.lit [I a]))) 1 (some (Row.lit [I (addI .i64 a 1)])),nl:=2,hw:=fun _=>none,nt:=0,vw:=fun _=>none:Heap} else J {sl:=[(0,.str e),(1,D.bp 1 0),(2,D.bp 0 0),(7,I (↑(List.length e):Int)),(8,I (addI .i64 i 1))],h:={box:=upd (upd (fun _=>none) 0 (some (Row.lit [.str q]))) 1 (some (Row.lit [I a])),nl:=2,hw:=fun _=>none,nt:=0,vw:=fun _=>none:Heap}:St} else K (B false) {box:=upd (upd (fun _=>none) 0 (some (Row.lit [.str q]))) 1 (some (Row.lit [I a])),nl:=2,hw:=fun _=>none,nt:=0,vw:=fun _=>none:Heap}):=by kernel_rfl
theorem F119:OkF 119 Tryz.f119:=⟨by kernel_rfl,by kernel_rfl,by kernel_rfl⟩
def lv119:List (List Nat × List Nat):=[([1,1,0,0],[0,1,3])]
noncomputable def nDgs:List Nat→Nat→Option Ans:=scrAt []
theorem nDg [Lay] (q:Str) (a:Int) (K:D→Heap→Prop):runS (En Tryz.f119) (fh Tryz.f119 K) (nDgs ) lv119 200 [.code []] ⟨argSlots 0 [.bp 1 0,.bp 0 0],hSc q a⟩ =
 (At (En Tryz.f119) (fh Tryz.f119 K) [It.code [1,1,0,0],It.blk 0,It.code [1,1,1]] {sl:=[(0,D.bp 1 0),(1,D.bp 0 0),(3,I a)],h:={box:=upd (upd (fun _=>none) 0 (some (Row.lit [.str q]))) 1 (some (Row.lit [I a])),nl:=2,hw:=fun _=>none,nt:=0,vw:=fun _=>none:Heap}:St}):=by kernel_rfl
def SDg (q:Str) (f a:Int):St:=⟨[(0,.bp 1 0),(1,.bp 0 0),(3,I f)],hSc q a⟩
noncomputable def nDgas:List Nat→Nat→Option Ans:=scrAt []
theorem nDga [Lay] (q:Str) (f a:Int) (J:St→Prop) (K:D→Heap→Prop):runS (En Tryz.f119) (fh Tryz.f119 K) (nDgas ) lv119 200 [.code [1,1,0,0,0],stp [0,1,3] J,.blk 0,.code [1,1,1]] (SDg q f a) =
 (List.length q≤strM→(decide (a < (↑(List.length q):Int))=true→0≤a∧a < (↑(List.length q):Int))∧((bif decide (a < (↑(List.length q):Int)) then decide ((↑(List.getD q a.toNat 0).toNat:Int)≥48) else false)=true→0≤a∧a < (↑(List.length q):Int))∧bif bif bif decide (a < (↑(List.length q):Int)) then decide ((↑(List.getD q a.toNat 0).toNat:Int)≥48) else false then decide ((↑(List.getD q a.toNat 0).toNat:Int)≤57) else false then True∧J {sl:=[(0,D.bp 1 0),(1,D.bp 0 0),(3,I f)],h:={box:=upd (upd (upd (fun _=>none) 0 (some (Row.lit [.str q]))) 1 (some (Row.lit [I a]))) 1 (some (Row.lit [I (addI .i64 a 1)])),nl:=2,hw:=fun _=>none,nt:=0,vw:=fun _=>none:Heap}:St} else (0≤f∧f≤a∧a≤(↑(List.length q):Int))∧K (.str (List.drop f.toNat (List.take a.toNat q))) {box:=upd (upd (fun _=>none) 0 (some (Row.lit [.str q]))) 1 (some (Row.lit [I a])),nl:=2,hw:=fun _=>none,nt:=0,vw:=fun _=>none:Heap}):=by kernel_rfl
def oneB (e q:Str) (a:Int):Bool:=decide (a < (q.length:Int))&&e.contains (q.getD a.toNat 0)
def oneA (e q:Str) (a:Int):Int:=if oneB e q a=true then a+1 else a
theorem hSc_set (q:Str) (a b:Int):(⟨upd (upd (upd (fun _=>none) 0 (some (Row.lit [.str q]))) 1 (some (Row.lit [I a]))) 1 (some (Row.lit [I b])),2,fun _=>none,0,fun _=>none⟩:Heap)=hSc q b :=
 hp_eq (fun k=>by rcases k with _ | _ | k <;> rfl) rfl rfl
theorem e118 [Lay] (e q:Str) (a:Int) (h0:0≤a) (h1:a≤1000000) (he:e.length≤1000):Does PP 118 [.str e,.bp 1 0,.bp 0 0] (hSc q a) (B (oneB e q a)) (hSc q (oneA e q a)):=by
 refine du F118 (by kernel_rfl) (of_eq (nOne e q a _) fun _=> ?_)
 refine lp (fn:=Tryz.f118) (fun i:Nat=>i≤e.length∧oneB e q a=(decide (a < (q.length:Int))&&(e.drop i).contains (q.getD a.toNat 0))) (fun i=>SOn e q a i) (fun i=>e.length - i) [0,1,2,7,8] (by kernel_rfl) (fun i hi=>of_eq (nOnea e q a i _ _) ?_) 0 ⟨Nat.zero_le _,rfl⟩
 obtain ⟨hi,hc⟩:=hi
 refine cond_intro (fun hlt=>fun _=> ?_) fun hge=> ?_
 ·have hlt:=ltI hlt
  have hg:e.getD (i:Int).toNat 0=e.getD i default:=by rw [Int.toNat_natCast]; rfl
  rw [drop_cons _ _ hlt,List.contains_cons] at hc
  rw [hg,add1 hlt (by unfold lenM; omega)]
  refine ⟨fun h=>⟨h0,of_decide_eq_true h⟩,fun _=>⟨by omega,by omega⟩,?_⟩
  by_cases hq:a < (q.length:Int)
  ·have hd:decide (a < (q.length:Int))=true:=decide_eq_true hq
   rw [hd]
   refine cond_intro (fun h=>⟨trivial,?_⟩) fun h=> ?_
   ·have h:=eq_of_beq (show (((q.getD a.toNat 0).toNat:Int)==((e.getD i default).toNat:Int))=true from h)
    have hE:(q.getD a.toNat 0==e.getD i default)=true:=by
     rw [beq_iff_eq,← UInt8.toNat_inj]; omega
    rw [hE,Bool.true_or,Bool.and_true,hd] at hc
    rw [add64 (by omega) (by omega),hSc_set]
    unfold oneA
    rw [hc,if_pos rfl]
    exact RetLe.refl _ _
   ·have h:(((q.getD a.toNat 0).toNat:Int)==((e.getD i default).toNat:Int))=false:=h
    have hE:(q.getD a.toNat 0==e.getD i default)=false:=by
     rw [beq_eq_false_iff_ne] at h ⊢
     intro e; exact h (by rw [e])
    rw [hE,Bool.false_or] at hc
    rw [hd] at hc
    exact Nx.mk (i+1) ⟨hlt,hc⟩ (by omega)
  ·have hd:decide (a < (q.length:Int))=false:=decide_eq_false hq
   rw [hd,Bool.false_and] at hc
   rw [hd]
   refine cond_intro (fun h=>by cases h) fun _=> ?_
   exact Nx.mk (i+1) ⟨hlt,by rw [Bool.false_and]; exact hc⟩ (by omega)
 ·rw [List.drop_of_length_le (geI hge)] at hc
  have hb:oneB e q a=false:=by rw [hc]; simp
  unfold oneA
  rw [hb,if_neg (by simp)]
  exact RetLe.refl _ _
theorem e119 [Lay] (q:Str) (a:Int) (h0:0≤a) (h1:a≤(q.length:Int)) (hq:q.length≤1000000):Does PP 119 [.bp 1 0,.bp 0 0] (hSc q a) (.str (spanD (q.drop a.toNat)).1) (hSc q (a+(spanD (q.drop a.toNat)).1.length)):=by
 obtain ⟨f,rfl⟩:∃ n:Nat,a=n:=⟨a.toNat,by omega⟩
 rw [Int.toNat_natCast]
 refine du F119 (by kernel_rfl) (of_eq (nDg q f _) ?_)
 refine lp (fn:=Tryz.f119) (fun i:Nat=>f≤i∧i≤q.length∧(spanD (q.drop f)).1=(q.take i).drop f++(spanD (q.drop i)).1) (fun i=>SDg q f i) (fun i=>q.length - i) [0,1,3] (by kernel_rfl) (fun i hi=>of_eq (nDga q f i _ _) fun hlm=> ?_) f ⟨Nat.le_refl _,by omega,by
  have h9:(q.take f).drop f=[]:=List.drop_eq_nil_of_le (by rw [List.length_take]; omega)
  rw [h9]; rfl⟩
 obtain ⟨hfi,hi,he⟩:=hi
 rw [Int.toNat_natCast]
 refine ⟨fun h=>⟨by omega,of_decide_eq_true h⟩,fun h=> ?_,?_⟩
 ·by_cases hx:(i:Int) < (q.length:Int)
  ·exact ⟨by omega,hx⟩
  ·rw [decide_eq_false hx] at h; cases h
 by_cases hx:i < q.length
 ·have hdg:(bif bif decide ((i:Int) < (q.length:Int)) then decide (((q.getD i 0).toNat:Int)≥48) else false then decide (((q.getD i 0).toNat:Int)≤57) else false)=isDg (q.getD i default):=by
   rw [decide_eq_true (by omega)]
   unfold isDg
   show (bif decide (((q.getD i default).toNat:Int)≥48) then decide (((q.getD i default).toNat:Int)≤57) else false)=_
   rw [Bool.eq_iff_iff]; simp; omega
  rw [hdg]
  rw [drop_cons _ _ hx,spanD] at he
  refine cond_intro (fun h=>⟨trivial,?_⟩) fun h=>⟨⟨by omega,by omega,by omega⟩,?_⟩
  ·rw [if_pos h] at he
   rw [add64 (by omega) (by omega)]
   refine Nx.of (i+1) ⟨by omega,hx,?_⟩ (by omega) (StLe.heap (hSc_set q i ((i+1:Nat):Int)))
   rw [he,take_snoc _ _ hx,List.drop_append_of_le_length (by rw [List.length_take]; omega),List.append_assoc]; rfl
  ·rw [if_neg (by rw [h]; simp),List.append_nil] at he
   rw [he,Int.toNat_natCast,List.length_drop,List.length_take]
   refine RetLe.wk (Wk.refl _) ?_
   show hSc q (i:Int)=hSc q _
   congr 1; omega
 ·have hdg:(bif bif decide ((i:Int) < (q.length:Int)) then decide (((q.getD i 0).toNat:Int)≥48) else false then decide (((q.getD i 0).toNat:Int)≤57) else false)=false:=by
   rw [decide_eq_false (by omega)]; rfl
  rw [hdg]
  have hd:q.drop i=[]:=List.drop_of_length_le (by omega)
  have hn:(spanD ([]:Str)).1=[]:=rfl
  rw [hd,hn,List.append_nil] at he
  refine ⟨⟨by omega,by omega,by omega⟩,?_⟩
  rw [he,Int.toNat_natCast,List.length_drop,List.length_take]
  refine RetLe.wk (Wk.refl _) ?_
  show hSc q (i:Int)=hSc q _
  congr 1; omega
end Go.Proofs.YtiekphbkomddfaaGreatDoor.S1
namespace Go.Proofs.YtiekphbkomddfaaGreatDoor.S1
open Go Go.Ab Go.Proofs
def hScT (q:Str) (a:Int) (n:Nat):Heap:=⟨upd (upd (fun _=>none) 0 (some (.lit [.str q]))) 1 (some (.lit [I a])),2,upd (fun _=>none) 0 (some n),1,fun _=>none⟩
theorem F66:OkF 66 Tryz.f66:=⟨by kernel_rfl,by kernel_rfl,by kernel_rfl⟩
def lv66:List (List Nat × List Nat):=[([1,1,1,1,1,1,1,1,1,1,1,0,1,0,1,1,1,1,1,0,1,0],[1,2,4,5,10,12,66,67,68])]
abbrev oneC:D:= .clo 118 [.bp 1 0,.bp 0 0]
abbrev digC:D:= .clo 119 [.bp 1 0,.bp 0 0]
abbrev nilB:D:= .list 0 0 (fun _=> .junk) .full
noncomputable def lvSA:List (List Nat × List Nat):=[([1,1,1,1,1,1],[1,2,4,5,6,7])]
noncomputable def nScAs:List Nat→Nat→Option Ans:=scrAt []
theorem nScA [Lay] (q:Str) (K:D→Heap→Prop):runS (EnX [1,5] Tryz.f66) (fh Tryz.f66 K) (nScAs ) lvSA 200 [.code []] ⟨argSlots 0 [.str q],.empty⟩ =
 (True∧(List.length q≤strM→bif decide ((↑(List.length q):Int) > 64) then True∧K (.tup [.agg [B false,.list 0 0 (fun _=>D.junk) .full,I 0],B false]) {box:=upd (fun _=>none) 0 (some (Row.lit [.str q])),nl:=1,hw:=fun _=>none,nt:=0,vw:=fun _=>none:Heap} else True∧True∧At (EnX [1,5] Tryz.f66) (fh Tryz.f66 K) [It.code [1,1,1,1,1,1]] {sl:=[(1,D.bp 0 0),(2,.own [B false,.list 0 0 (fun _=>D.junk) .full,I 0]),(4,.own [B false,.list 0 0 (fun _=>D.junk) .full,I 0]),(5,D.bp 1 0),(6,D.clo 118 [D.bp 1 0,D.bp 0 0]),(7,D.clo 119 [D.bp 1 0,D.bp 0 0])],h:={box:=upd (upd (upd (fun _=>none) 0 (some (Row.lit [.str q]))) 1 (some (Row.lit [I 0]))) 1 (some (Row.lit [I 0])),nl:=2,hw:=fun _=>none,nt:=0,vw:=fun _=>none:Heap}:St})):=by kernel_rfl
noncomputable def lvSA2:List (List Nat × List Nat):=[([1,1,1,1,1,1,1],[1,2,4,5,6,7])]
noncomputable def nScA2s (q:Str):List Nat→Nat→Option Ans:=scrAt [([1,1,1,1,1,1,0,0],1,Ans.eff (B (oneB {data:= #[45]:ByteArray}.data.toList q 0)) (hSc q (oneA {data:= #[45]:ByteArray}.data.toList q 0))),([1,1,1,1,1,1,0,1,1],1,Ans.eff (B (oneB {data:= #[43]:ByteArray}.data.toList q (oneA {data:= #[45]:ByteArray}.data.toList q 0))) (hSc q (oneA {data:= #[43]:ByteArray}.data.toList q (oneA {data:= #[45]:ByteArray}.data.toList q 0))))]
theorem nScA2 [Lay] (q:Str) (K:D→Heap→Prop):runS (EnX [1,5] Tryz.f66) (fh Tryz.f66 K) (nScA2s q) lvSA2 200 [.code [1,1,1,1,1,1]] ⟨[(1,.bp 0 0),(2,.own [B false,nilB,I 0]),(4,.own [B false,nilB,I 0]),(5,.bp 1 0),(6,oneC),(7,digC)],hSc q 0⟩ =
 (Does PP 118 [.str {data:= #[45]:ByteArray}.data.toList,D.bp 1 0,D.bp 0 0] {box:=upd (upd (fun _=>none) 0 (some (Row.lit [.str q]))) 1 (some (Row.lit [I 0])),nl:=2,hw:=fun _=>none,nt:=0,vw:=fun _=>none:Heap} (B (oneB {data:= #[45]:ByteArray}.data.toList q 0)) (hSc q (oneA {data:= #[45]:ByteArray}.data.toList q 0)) ∧
 bif oneB {data:= #[45]:ByteArray}.data.toList q 0 then True∧At (EnX [1,5] Tryz.f66) (fh Tryz.f66 K) [It.code [1,1,1,1,1,1,1]] {sl:=[(1,D.bp 0 0),(2,.own [B false,nilB,I 0]),(4,.own [B true,nilB,I 0]),(5,D.bp 1 0),(6,oneC),(7,digC)],h:={box:=upd (upd (fun _=>none) 0 (some (Row.lit [.str q]))) 1 (some (Row.lit [I (oneA {data:= #[45]:ByteArray}.data.toList q 0)])),nl:=2,hw:=fun _=>none,nt:=0,vw:=fun _=>none:Heap}:St} else Does PP 118 [.str {data:= #[43]:ByteArray}.data.toList,D.bp 1 0,D.bp 0 0] {box:=upd (upd (fun _=>none) 0 (some (Row.lit [.str q]))) 1 (some (Row.lit [I (oneA {data:= #[45]:ByteArray}.data.toList q 0)])),nl:=2,hw:=fun _=>none,nt:=0,vw:=fun _=>none:Heap} (B (oneB {data:= #[43]:ByteArray}.data.toList q (oneA {data:= #[45]:ByteArray}.data.toList q 0))) (hSc q (oneA {data:= #[43]:ByteArray}.data.toList q (oneA {data:= #[45]:ByteArray}.data.toList q 0)))∧At (EnX [1,5] Tryz.f66) (fh Tryz.f66 K) [It.code [1,1,1,1,1,1,1]] {sl:=[(1,D.bp 0 0),(2,.own [B false,nilB,I 0]),(4,.own [B false,nilB,I 0]),(5,D.bp 1 0),(6,oneC),(7,digC)],h:={box:=upd (upd (fun _=>none) 0 (some (Row.lit [.str q]))) 1 (some (Row.lit [I (oneA {data:= #[43]:ByteArray}.data.toList q (oneA {data:= #[45]:ByteArray}.data.toList q 0))])),nl:=2,hw:=fun _=>none,nt:=0,vw:=fun _=>none:Heap}:St}):=by kernel_rfl
noncomputable def lvSB:List (List Nat × List Nat):=[([1,1,1,1,1,1,1,1,1,1],[1,2,4,5,6,7])]
noncomputable def nScBs (q:Str) (a:Int):List Nat→Nat→Option Ans:=scrAt [([1,1,1,1,1,1,1,0],1,Ans.eff (.str (spanD (List.drop a.toNat q)).fst) (hSc q (a+(↑(List.length (spanD (List.drop a.toNat q)).fst):Int))))]
theorem nScB [Lay] (q:Str) (a:Int) (ng:Bool) (K:D→Heap→Prop):runS (EnX [1,5] Tryz.f66) (fh Tryz.f66 K) (nScBs q a) lvSB 200 [.code [1,1,1,1,1,1,1]] ⟨[(1,.bp 0 0),(2,.own [B false,nilB,I 0]),(4,.own [B ng,nilB,I 0]),(5,.bp 1 0),(6,oneC),(7,digC)],hSc q a⟩ =
 (Does PP 119 [D.bp 1 0,D.bp 0 0] {box:=upd (upd (fun _=>none) 0 (some (Row.lit [.str q]))) 1 (some (Row.lit [I a])),nl:=2,hw:=fun _=>none,nt:=0,vw:=fun _=>none:Heap} (.str (spanD (List.drop a.toNat q)).fst) (hSc q (a+(↑(List.length (spanD (List.drop a.toNat q)).fst):Int)))∧bif (spanD (List.drop a.toNat q)).fst=={data:= #[]:ByteArray}.data.toList then True∧K (.tup [.agg [B ng,nilB,I 0],B false]) {box:=upd (upd (fun _=>none) 0 (some (Row.lit [.str q]))) 1 (some (Row.lit [I (a+(↑(List.length (spanD (List.drop a.toNat q)).fst):Int))])),nl:=2,hw:=fun _=>none,nt:=0,vw:=fun _=>none:Heap} else (0+List.length (spanD (List.drop a.toNat q)).fst) * 1≤roomM∧True∧At (EnX [1,5] Tryz.f66) (fh Tryz.f66 K) [It.code [1,1,1,1,1,1,1,1,1,1]] {sl:=[(1,D.bp 0 0),(2,.own [B false,nilB,I 0]),(4,.own [B ng,.list (0+List.length (spanD (List.drop a.toNat q)).fst) 1 (catG 0 (fun _=>D.junk) (strG (spanD (List.drop a.toNat q)).fst)) (.tok 0 1),I 0]),(5,D.bp 1 0),(6,oneC),(7,digC)],h:={box:=upd (upd (fun _=>none) 0 (some (Row.lit [.str q]))) 1 (some (Row.lit [I (a+(↑(List.length (spanD (List.drop a.toNat q)).fst):Int))])),nl:=2,hw:=upd (fun _=>none) 0 (some (0+List.length (spanD (List.drop a.toNat q)).fst)),nt:=1,vw:=fun _=>none:Heap}:St}):=by kernel_rfl
noncomputable def lvSC:List (List Nat × List Nat):=[([1,1,1,1,1,1,1,1,1,1,1],[1,2,4,5,6,7])]
noncomputable def nScCs (q:Str) (wh:Str) (a:Int):List Nat→Nat→Option Ans:=scrAt [([1,1,1,1,1,1,1,1,1,1,0,0],1,Ans.eff (ren (rnm [0,1] 2) (rnm [] 1) (B (oneB {data:= #[46]:ByteArray}.data.toList q a))) (frameH [0,1] [] {box:=upd (upd (fun _=>none) 0 (some (Row.lit [.str q]))) 1 (some (Row.lit [I a])),nl:=2,hw:=upd (fun _=>none) 0 (some (List.length wh)),nt:=1,vw:=fun _=>none:Heap} (hSc q (oneA {data:= #[46]:ByteArray}.data.toList q a)))),([1,1,1,1,1,1,1,1,1,1,0,1,0,0],1,Ans.eff (ren (rnm [0,1] 2) (rnm [] 1) (.str (spanD (List.drop (oneA {data:= #[46]:ByteArray}.data.toList q a).toNat q)).fst)) (frameH [0,1] [] {box:=upd (upd (upd (upd (fun _=>none) 0 (some (Row.lit [.str q]))) 1 (some (Row.lit [I a]))) 0 (some (Row.lit [.str q]))) 1 (some (Row.lit [I (oneA {data:= #[46]:ByteArray}.data.toList q a)])),nl:=2,hw:=upd (fun _=>none) 0 (some (List.length wh)),nt:=1,vw:=fun _=>none:Heap} (hSc q (oneA {data:= #[46]:ByteArray}.data.toList q a+(↑(List.length (spanD (List.drop (oneA {data:= #[46]:ByteArray}.data.toList q a).toNat q)).fst):Int)))))]
theorem nScC [Lay] (q wh:Str) (a:Int) (ng:Bool) (K:D→Heap→Prop):runS (EnX [1,5] Tryz.f66) (fh Tryz.f66 K) (nScCs q wh a) lvSC 200 [.code [1,1,1,1,1,1,1,1,1,1]] ⟨[(1,.bp 0 0),(2,.own [B false,nilB,I 0]),(4,.own [B ng,LT wh 1 encB 0,I 0]),(5,.bp 1 0),(6,oneC),(7,digC)],hScT q a wh.length⟩ =
 (Does PP 118 [.str {data:= #[46]:ByteArray}.data.toList,D.bp 1 0,D.bp 0 0] {box:=upd (upd (fun _=>none) 0 (some (Row.lit [.str q]))) 1 (some (Row.lit [I a])),nl:=2,hw:=upd (fun _=>none) 0 (some (List.length wh)),nt:=1,vw:=fun _=>none:Heap} (ren (rnm [0,1] 2) (rnm [] 1) (B (oneB {data:= #[46]:ByteArray}.data.toList q a))) (frameH [0,1] [] {box:=upd (upd (fun _=>none) 0 (some (Row.lit [.str q]))) 1 (some (Row.lit [I a])),nl:=2,hw:=upd (fun _=>none) 0 (some (List.length wh)),nt:=1,vw:=fun _=>none:Heap} (hSc q (oneA {data:= #[46]:ByteArray}.data.toList q a))) ∧
 bif oneB {data:= #[46]:ByteArray}.data.toList q a then
  Does PP 119 [D.bp 1 0,D.bp 0 0] {box:=upd (upd (upd (upd (fun _=>none) 0 (some (Row.lit [.str q]))) 1 (some (Row.lit [I a]))) 0 (some (Row.lit [.str q]))) 1 (some (Row.lit [I (oneA {data:= #[46]:ByteArray}.data.toList q a)])),nl:=2,hw:=upd (fun _=>none) 0 (some (List.length wh)),nt:=1,vw:=fun _=>none:Heap} (ren (rnm [0,1] 2) (rnm [] 1) (.str (spanD (List.drop (oneA {data:= #[46]:ByteArray}.data.toList q a).toNat q)).fst)) (frameH [0,1] [] {box:=upd (upd (upd (upd (fun _=>none) 0 (some (Row.lit [.str q]))) 1 (some (Row.lit [I a]))) 0 (some (Row.lit [.str q]))) 1 (some (Row.lit [I (oneA {data:= #[46]:ByteArray}.data.toList q a)])),nl:=2,hw:=upd (fun _=>none) 0 (some (List.length wh)),nt:=1,vw:=fun _=>none:Heap} (hSc q (oneA {data:= #[46]:ByteArray}.data.toList q a+(↑(List.length (spanD (List.drop (oneA {data:= #[46]:ByteArray}.data.toList q a).toNat q)).fst):Int)))) ∧
   bif (spanD (List.drop (oneA {data:= #[46]:ByteArray}.data.toList q a).toNat q)).fst=={data:= #[]:ByteArray}.data.toList then True∧K (.tup [.agg [B ng,.list (List.length wh) 1 (fun i=>encB (List.getD wh i default)) (.tok 0 1),I 0],B false]) {box:=upd (upd (upd (upd (upd (upd (fun _=>none) 0 (some (Row.lit [.str q]))) 1 (some (Row.lit [I a]))) 0 (some (Row.lit [.str q]))) 1 (some (Row.lit [I (oneA {data:= #[46]:ByteArray}.data.toList q a)]))) 0 (some (Row.lit [.str q]))) 1 (some (Row.lit [I (oneA {data:= #[46]:ByteArray}.data.toList q a+(↑(List.length (spanD (List.drop (oneA {data:= #[46]:ByteArray}.data.toList q a).toNat q)).fst):Int))])),nl:=2,hw:=upd (fun _=>none) 0 (some (List.length wh)),nt:=1,vw:=fun _=>none:Heap}
   else (updN (upd (fun _=>none) 0 (some (List.length wh))) (rnm [] 1) (fun _=>none) 0 0=some (List.length wh)∧(List.length wh+List.length (spanD (List.drop (oneA {data:= #[46]:ByteArray}.data.toList q a).toNat q)).fst) * 1≤roomM)∧True∧(List.length (spanD (List.drop (oneA {data:= #[46]:ByteArray}.data.toList q a).toNat q)).fst≤strM→True∧At (EnX [1,5] Tryz.f66) (fh Tryz.f66 K) [It.code [1,1,1,1,1,1,1,1,1,1,1]] {sl:=[(1,D.bp 0 0),(2,.own [B false,nilB,I 0]),(4,.own [B ng,.list (List.length wh+List.length (spanD (List.drop (oneA {data:= #[46]:ByteArray}.data.toList q a).toNat q)).fst) 1 (catG (List.length wh) (fun i=>encB (List.getD wh i default)) (strG (spanD (List.drop (oneA {data:= #[46]:ByteArray}.data.toList q a).toNat q)).fst)) (.tok 0 1),I (subI .i64 0 (↑(List.length (spanD (List.drop (oneA {data:= #[46]:ByteArray}.data.toList q a).toNat q)).fst):Int))]),(5,D.bp 1 0),(6,oneC),(7,digC)],h:={box:=upd (upd (upd (upd (upd (upd (fun _=>none) 0 (some (Row.lit [.str q]))) 1 (some (Row.lit [I a]))) 0 (some (Row.lit [.str q]))) 1 (some (Row.lit [I (oneA {data:= #[46]:ByteArray}.data.toList q a)]))) 0 (some (Row.lit [.str q]))) 1 (some (Row.lit [I (oneA {data:= #[46]:ByteArray}.data.toList q a+(↑(List.length (spanD (List.drop (oneA {data:= #[46]:ByteArray}.data.toList q a).toNat q)).fst):Int))])),nl:=2,hw:=upd (upd (fun _=>none) 0 (some (List.length wh))) 0 (some (List.length wh+List.length (spanD (List.drop (oneA {data:= #[46]:ByteArray}.data.toList q a).toNat q)).fst)),nt:=1,vw:=fun _=>none:Heap}:St})
 else At (EnX [1,5] Tryz.f66) (fh Tryz.f66 K) [It.code [1,1,1,1,1,1,1,1,1,1,1]] {sl:=[(1,D.bp 0 0),(2,.own [B false,nilB,I 0]),(4,.own [B ng,.list (List.length wh) 1 (fun i=>encB (List.getD wh i default)) (.tok 0 1),I 0]),(5,D.bp 1 0),(6,oneC),(7,digC)],h:={box:=upd (upd (upd (upd (fun _=>none) 0 (some (Row.lit [.str q]))) 1 (some (Row.lit [I a]))) 0 (some (Row.lit [.str q]))) 1 (some (Row.lit [I (oneA {data:= #[46]:ByteArray}.data.toList q a)])),nl:=2,hw:=upd (fun _=>none) 0 (some (List.length wh)),nt:=1,vw:=fun _=>none:Heap}:St}):=by kernel_rfl
noncomputable def lvSD:List (List Nat × List Nat):=[([1,1,1,1,1,1,1,1,1,1,1,1],[1,2,4,5]),([1,1,1,1,1,1,1,1,1,1,1,0,1,0],[1,2,4,5,6,7])]
noncomputable def nScDs (q:Str) (dg:Str) (a:Int):List Nat→Nat→Option Ans:=scrAt [([1,1,1,1,1,1,1,1,1,1,1,0,0],1,Ans.eff (ren (rnm [0,1] 2) (rnm [] 1) (B (oneB {data:= #[101,69]:ByteArray}.data.toList q a))) (frameH [0,1] [] {box:=upd (upd (fun _=>none) 0 (some (Row.lit [.str q]))) 1 (some (Row.lit [I a])),nl:=2,hw:=upd (fun _=>none) 0 (some (List.length dg)),nt:=1,vw:=fun _=>none:Heap} (hSc q (oneA {data:= #[101,69]:ByteArray}.data.toList q a))))]
theorem nScD [Lay] (q dg:Str) (a x:Int) (ng:Bool) (K:D→Heap→Prop):runS (EnX [1,5] Tryz.f66) (fh Tryz.f66 K) (nScDs q dg a) lvSD 200 [.code [1,1,1,1,1,1,1,1,1,1,1]] ⟨[(1,.bp 0 0),(2,.own [B false,nilB,I 0]),(4,.own [B ng,LT dg 1 encB 0,I x]),(5,.bp 1 0),(6,oneC),(7,digC)],hScT q a dg.length⟩ =
 (Does PP 118 [.str {data:= #[101,69]:ByteArray}.data.toList,D.bp 1 0,D.bp 0 0] {box:=upd (upd (fun _=>none) 0 (some (Row.lit [.str q]))) 1 (some (Row.lit [I a])),nl:=2,hw:=upd (fun _=>none) 0 (some (List.length dg)),nt:=1,vw:=fun _=>none:Heap} (ren (rnm [0,1] 2) (rnm [] 1) (B (oneB {data:= #[101,69]:ByteArray}.data.toList q a))) (frameH [0,1] [] {box:=upd (upd (fun _=>none) 0 (some (Row.lit [.str q]))) 1 (some (Row.lit [I a])),nl:=2,hw:=upd (fun _=>none) 0 (some (List.length dg)),nt:=1,vw:=fun _=>none:Heap} (hSc q (oneA {data:= #[101,69]:ByteArray}.data.toList q a))) ∧
 bif oneB {data:= #[101,69]:ByteArray}.data.toList q a then At (EnX [1,5] Tryz.f66) (fh Tryz.f66 K) [It.code [1,1,1,1,1,1,1,1,1,1,1,0,1,0],It.code [1,1,1,1,1,1,1,1,1,1,1,1]] {sl:=[(1,D.bp 0 0),(2,.own [B false,nilB,I 0]),(4,.own [B ng,.list (List.length dg) 1 (fun i=>encB (List.getD dg i default)) (.tok 0 1),I x]),(5,D.bp 1 0),(6,oneC),(7,digC)],h:={box:=upd (upd (upd (upd (fun _=>none) 0 (some (Row.lit [.str q]))) 1 (some (Row.lit [I a]))) 0 (some (Row.lit [.str q]))) 1 (some (Row.lit [I (oneA {data:= #[101,69]:ByteArray}.data.toList q a)])),nl:=2,hw:=upd (fun _=>none) 0 (some (List.length dg)),nt:=1,vw:=fun _=>none:Heap}:St} else At (EnX [1,5] Tryz.f66) (fh Tryz.f66 K) [It.code [1,1,1,1,1,1,1,1,1,1,1,1]] {sl:=[(1,D.bp 0 0),(2,.own [B false,nilB,I 0]),(4,.own [B ng,.list (List.length dg) 1 (fun i=>encB (List.getD dg i default)) (.tok 0 1),I x]),(5,D.bp 1 0)],h:={box:=upd (upd (upd (upd (fun _=>none) 0 (some (Row.lit [.str q]))) 1 (some (Row.lit [I a]))) 0 (some (Row.lit [.str q]))) 1 (some (Row.lit [I (oneA {data:= #[101,69]:ByteArray}.data.toList q a)])),nl:=2,hw:=upd (fun _=>none) 0 (some (List.length dg)),nt:=1,vw:=fun _=>none:Heap}:St}):=by kernel_rfl
noncomputable def lvSD2:List (List Nat × List Nat):=[([1,1,1,1,1,1,1,1,1,1,1,0,1,0,1,1],[1,2,4,5,7,10])]
noncomputable def nScD2s (q:Str) (dg:Str) (a:Int):List Nat→Nat→Option Ans:=scrAt [([1,1,1,1,1,1,1,1,1,1,1,0,1,0,0],1,Ans.eff (ren (rnm [0,1] 2) (rnm [] 1) (B (oneB {data:= #[45]:ByteArray}.data.toList q a))) (frameH [0,1] [] {box:=upd (upd (fun _=>none) 0 (some (Row.lit [.str q]))) 1 (some (Row.lit [I a])),nl:=2,hw:=upd (fun _=>none) 0 (some (List.length dg)),nt:=1,vw:=fun _=>none:Heap} (hSc q (oneA {data:= #[45]:ByteArray}.data.toList q a)))),([1,1,1,1,1,1,1,1,1,1,1,0,1,0,1,0,1,0],1,Ans.eff (ren (rnm [0,1] 2) (rnm [] 1) (B (oneB {data:= #[43]:ByteArray}.data.toList q (oneA {data:= #[45]:ByteArray}.data.toList q a)))) (frameH [0,1] [] {box:=upd (upd (upd (upd (fun _=>none) 0 (some (Row.lit [.str q]))) 1 (some (Row.lit [I a]))) 0 (some (Row.lit [.str q]))) 1 (some (Row.lit [I (oneA {data:= #[45]:ByteArray}.data.toList q a)])),nl:=2,hw:=upd (fun _=>none) 0 (some (List.length dg)),nt:=1,vw:=fun _=>none:Heap} (hSc q (oneA {data:= #[43]:ByteArray}.data.toList q (oneA {data:= #[45]:ByteArray}.data.toList q a)))))]
theorem nScD2 [Lay] (q dg:Str) (a x:Int) (ng:Bool) (K:D→Heap→Prop):runS (EnX [1,5] Tryz.f66) (fh Tryz.f66 K) (nScD2s q dg a) lvSD2 200 [.code [1,1,1,1,1,1,1,1,1,1,1,0,1,0],.code [1,1,1,1,1,1,1,1,1,1,1,1]] ⟨[(1,.bp 0 0),(2,.own [B false,nilB,I 0]),(4,.own [B ng,LT dg 1 encB 0,I x]),(5,.bp 1 0),(6,oneC),(7,digC)],hScT q a dg.length⟩ =
 (Does PP 118 [.str {data:= #[45]:ByteArray}.data.toList,D.bp 1 0,D.bp 0 0] {box:=upd (upd (fun _=>none) 0 (some (Row.lit [.str q]))) 1 (some (Row.lit [I a])),nl:=2,hw:=upd (fun _=>none) 0 (some (List.length dg)),nt:=1,vw:=fun _=>none:Heap} (ren (rnm [0,1] 2) (rnm [] 1) (B (oneB {data:= #[45]:ByteArray}.data.toList q a))) (frameH [0,1] [] {box:=upd (upd (fun _=>none) 0 (some (Row.lit [.str q]))) 1 (some (Row.lit [I a])),nl:=2,hw:=upd (fun _=>none) 0 (some (List.length dg)),nt:=1,vw:=fun _=>none:Heap} (hSc q (oneA {data:= #[45]:ByteArray}.data.toList q a))) ∧
 bif !oneB {data:= #[45]:ByteArray}.data.toList q a then
  Does PP 118 [.str {data:= #[43]:ByteArray}.data.toList,D.bp 1 0,D.bp 0 0] {box:=upd (upd (upd (upd (fun _=>none) 0 (some (Row.lit [.str q]))) 1 (some (Row.lit [I a]))) 0 (some (Row.lit [.str q]))) 1 (some (Row.lit [I (oneA {data:= #[45]:ByteArray}.data.toList q a)])),nl:=2,hw:=upd (fun _=>none) 0 (some (List.length dg)),nt:=1,vw:=fun _=>none:Heap} (ren (rnm [0,1] 2) (rnm [] 1) (B (oneB {data:= #[43]:ByteArray}.data.toList q (oneA {data:= #[45]:ByteArray}.data.toList q a)))) (frameH [0,1] [] {box:=upd (upd (upd (upd (fun _=>none) 0 (some (Row.lit [.str q]))) 1 (some (Row.lit [I a]))) 0 (some (Row.lit [.str q]))) 1 (some (Row.lit [I (oneA {data:= #[45]:ByteArray}.data.toList q a)])),nl:=2,hw:=upd (fun _=>none) 0 (some (List.length dg)),nt:=1,vw:=fun _=>none:Heap} (hSc q (oneA {data:= #[43]:ByteArray}.data.toList q (oneA {data:= #[45]:ByteArray}.data.toList q a)))) ∧
   At (EnX [1,5] Tryz.f66) (fh Tryz.f66 K) [It.code [1,1,1,1,1,1,1,1,1,1,1,0,1,0,1,1],It.code [1,1,1,1,1,1,1,1,1,1,1,1]] {sl:=[(1,D.bp 0 0),(2,.own [B false,nilB,I 0]),(4,.own [B ng,.list (List.length dg) 1 (fun i=>encB (List.getD dg i default)) (.tok 0 1),I x]),(5,D.bp 1 0),(7,digC),(10,B (oneB {data:= #[45]:ByteArray}.data.toList q a))],h:={box:=upd (upd (upd (upd (upd (upd (fun _=>none) 0 (some (Row.lit [.str q]))) 1 (some (Row.lit [I a]))) 0 (some (Row.lit [.str q]))) 1 (some (Row.lit [I (oneA {data:= #[45]:ByteArray}.data.toList q a)]))) 0 (some (Row.lit [.str q]))) 1 (some (Row.lit [I (oneA {data:= #[43]:ByteArray}.data.toList q (oneA {data:= #[45]:ByteArray}.data.toList q a))])),nl:=2,hw:=upd (fun _=>none) 0 (some (List.length dg)),nt:=1,vw:=fun _=>none:Heap}:St}
 else At (EnX [1,5] Tryz.f66) (fh Tryz.f66 K) [It.code [1,1,1,1,1,1,1,1,1,1,1,0,1,0,1,1],It.code [1,1,1,1,1,1,1,1,1,1,1,1]] {sl:=[(1,D.bp 0 0),(2,.own [B false,nilB,I 0]),(4,.own [B ng,.list (List.length dg) 1 (fun i=>encB (List.getD dg i default)) (.tok 0 1),I x]),(5,D.bp 1 0),(7,digC),(10,B (oneB {data:= #[45]:ByteArray}.data.toList q a))],h:={box:=upd (upd (upd (upd (fun _=>none) 0 (some (Row.lit [.str q]))) 1 (some (Row.lit [I a]))) 0 (some (Row.lit [.str q]))) 1 (some (Row.lit [I (oneA {data:= #[45]:ByteArray}.data.toList q a)])),nl:=2,hw:=upd (fun _=>none) 0 (some (List.length dg)),nt:=1,vw:=fun _=>none:Heap}:St}):=by kernel_rfl
noncomputable def lvSE:List (List Nat × List Nat):=lv66++[([1,1,1,1,1,1,1,1,1,1,1,1],[1,2,4,5])]
noncomputable def nScEs (q:Str) (dg:Str) (a:Int):List Nat→Nat→Option Ans:=scrAt [([1,1,1,1,1,1,1,1,1,1,1,0,1,0,1,1,0],1,Ans.eff (ren (rnm [0,1] 2) (rnm [] 1) (.str (spanD (List.drop a.toNat q)).fst)) (frameH [0,1] [] {box:=upd (upd (fun _=>none) 0 (some (Row.lit [.str q]))) 1 (some (Row.lit [I a])),nl:=2,hw:=upd (fun _=>none) 0 (some (List.length dg)),nt:=1,vw:=fun _=>none:Heap} (hSc q (a+(↑(List.length (spanD (List.drop a.toNat q)).fst):Int)))))]
theorem nScE [Lay] (q dg:Str) (a x:Int) (ng en:Bool) (K:D→Heap→Prop):runS (EnX [1,5] Tryz.f66) (fh Tryz.f66 K) (nScEs q dg a) lvSE 200 [.code [1,1,1,1,1,1,1,1,1,1,1,0,1,0,1,1],.code [1,1,1,1,1,1,1,1,1,1,1,1]] ⟨[(1,.bp 0 0),(2,.own [B false,nilB,I 0]),(4,.own [B ng,LT dg 1 encB 0,I x]),(5,.bp 1 0),(7,digC),(10,B en)],hScT q a dg.length⟩ =
 (Does PP 119 [D.bp 1 0,D.bp 0 0] {box:=upd (upd (fun _=>none) 0 (some (Row.lit [.str q]))) 1 (some (Row.lit [I a])),nl:=2,hw:=upd (fun _=>none) 0 (some (List.length dg)),nt:=1,vw:=fun _=>none:Heap} (ren (rnm [0,1] 2) (rnm [] 1) (.str (spanD (List.drop a.toNat q)).fst)) (frameH [0,1] [] {box:=upd (upd (fun _=>none) 0 (some (Row.lit [.str q]))) 1 (some (Row.lit [I a])),nl:=2,hw:=upd (fun _=>none) 0 (some (List.length dg)),nt:=1,vw:=fun _=>none:Heap} (hSc q (a+(↑(List.length (spanD (List.drop a.toNat q)).fst):Int)))) ∧
 bif (spanD (List.drop a.toNat q)).fst=={data:= #[]:ByteArray}.data.toList then True∧K (.tup [.agg [B ng,.list (List.length dg) 1 (fun i=>encB (List.getD dg i default)) (.tok 0 1),I x],B false]) {box:=upd (upd (upd (upd (fun _=>none) 0 (some (Row.lit [.str q]))) 1 (some (Row.lit [I a]))) 0 (some (Row.lit [.str q]))) 1 (some (Row.lit [I (a+(↑(List.length (spanD (List.drop a.toNat q)).fst):Int))])),nl:=2,hw:=upd (fun _=>none) 0 (some (List.length dg)),nt:=1,vw:=fun _=>none:Heap} else List.length (spanD (List.drop a.toNat q)).fst≤lenM→At (EnX [1,5] Tryz.f66) (fh Tryz.f66 K) [It.code [1,1,1,1,1,1,1,1,1,1,1,0,1,0,1,1,1,1,1,0,1,0],It.blk 0,It.code [1,1,1,1,1,1,1,1,1,1,1,0,1,0,1,1,1,1,1,1],It.code [1,1,1,1,1,1,1,1,1,1,1,1]] {sl:=[(1,D.bp 0 0),(2,.own [B false,nilB,I 0]),(4,.own [B ng,.list (List.length dg) 1 (fun i=>encB (List.getD dg i default)) (.tok 0 1),I x]),(5,D.bp 1 0),(10,B en),(12,I 0),(66,.list (List.length (spanD (List.drop a.toNat q)).fst) 1 (strG (spanD (List.drop a.toNat q)).fst) .none),(67,I (↑(List.length (spanD (List.drop a.toNat q)).fst):Int)),(68,I 0)],h:={box:=upd (upd (upd (upd (fun _=>none) 0 (some (Row.lit [.str q]))) 1 (some (Row.lit [I a]))) 0 (some (Row.lit [.str q]))) 1 (some (Row.lit [I (a+(↑(List.length (spanD (List.drop a.toNat q)).fst):Int))])),nl:=2,hw:=upd (fun _=>none) 0 (some (List.length dg)),nt:=1,vw:=fun _=>none:Heap}:St}):=by kernel_rfl
def SSe (q dg ed:Str) (a x:Int) (ng en:Bool) (e i:Int):St:=⟨[(1,.bp 0 0),(2,.own [B false,nilB,I 0]),(4,.own [B ng,LT dg 1 encB 0,I x]),(5,.bp 1 0),(10,B en),(12,I e),(66,L ed 1 encB),(67,I ed.length),(68,I i)],hScT q a dg.length⟩
noncomputable def nScFs:List Nat→Nat→Option Ans:=scrAt []
theorem nScF [Lay] (q dg ed:Str) (a x:Int) (ng en:Bool) (e i:Int) (J:St→Prop) (K:D→Heap→Prop):runS (EnX [1,5] Tryz.f66) (fh Tryz.f66 K) (nScFs ) lvSE 200 [.code [1,1,1,1,1,1,1,1,1,1,1,0,1,0,1,1,1,1,1,0,1,0,0],stp [1,2,4,5,10,12,66,67,68] J,.blk 0,.code [1,1,1,1,1,1,1,1,1,1,1,0,1,0,1,1,1,1,1,1],.code [1,1,1,1,1,1,1,1,1,1,1,1]] (SSe q dg ed a x ng en e i) =
 (bif decide (i < (↑(List.length ed):Int)) then (0≤i∧i < (↑(List.length ed):Int))∧J {sl:=[(1,D.bp 0 0),(2,.own [B false,nilB,I 0]),(4,.own [B ng,.list (List.length dg) 1 (fun i=>encB (List.getD dg i default)) (.tok 0 1),I x]),(5,D.bp 1 0),(10,B en),(12,I (if addI .i64 (mulI .i64 10 e) (IntKind.i64.wrap (subI IntKind.u8 (↑(List.getD ed i.toNat default).toNat:Int) 48)) < 1048576 then addI .i64 (mulI .i64 10 e) (IntKind.i64.wrap (subI IntKind.u8 (↑(List.getD ed i.toNat default).toNat:Int) 48)) else 1048576)),(66,L ed 1 encB),(67,I (↑(List.length ed):Int)),(68,I (addI .i64 i 1))],h:={box:=upd (upd (fun _=>none) 0 (some (Row.lit [.str q]))) 1 (some (Row.lit [I a])),nl:=2,hw:=upd (fun _=>none) 0 (some (List.length dg)),nt:=1,vw:=fun _=>none:Heap}:St}
 else bif en then True∧At (EnX [1,5] Tryz.f66) (fh Tryz.f66 K) [It.code [1,1,1,1,1,1,1,1,1,1,1,1]] {sl:=[(1,D.bp 0 0),(2,.own [B false,nilB,I 0]),(4,.own [B ng,.list (List.length dg) 1 (fun i=>encB (List.getD dg i default)) (.tok 0 1),I (addI .i64 x (subI .i64 0 e))]),(5,D.bp 1 0)],h:={box:=upd (upd (fun _=>none) 0 (some (Row.lit [.str q]))) 1 (some (Row.lit [I a])),nl:=2,hw:=upd (fun _=>none) 0 (some (List.length dg)),nt:=1,vw:=fun _=>none:Heap}:St} else True∧At (EnX [1,5] Tryz.f66) (fh Tryz.f66 K) [It.code [1,1,1,1,1,1,1,1,1,1,1,1]] {sl:=[(1,D.bp 0 0),(2,.own [B false,nilB,I 0]),(4,.own [B ng,.list (List.length dg) 1 (fun i=>encB (List.getD dg i default)) (.tok 0 1),I (addI .i64 x e)]),(5,D.bp 1 0)],h:={box:=upd (upd (fun _=>none) 0 (some (Row.lit [.str q]))) 1 (some (Row.lit [I a])),nl:=2,hw:=upd (fun _=>none) 0 (some (List.length dg)),nt:=1,vw:=fun _=>none:Heap}:St}):=by kernel_rfl
noncomputable def nScGs (dg:Str) (x:Int) (ng:Bool):List Nat→Nat→Option Ans:=scrAt [([1,1,1,1,1,1,1,1,1,1,1,1,0],1,Ans.pure [{neg:=ng,dig:=dg,ex:=x:Nm}.d] (trimF {neg:=ng,dig:=dg,ex:=x:Nm}).d)]
theorem nScG [Lay] (q dg:Str) (a x:Int) (ng:Bool) (K:D→Heap→Prop):runS (EnX [1,5] Tryz.f66) (fh Tryz.f66 K) (nScGs dg x ng) nolv 200 [.code [1,1,1,1,1,1,1,1,1,1,1,1]] ⟨[(1,.bp 0 0),(2,.own [B false,nilB,I 0]),(4,.own [B ng,LT dg 1 encB 0,I x]),(5,.bp 1 0)],hScT q a dg.length⟩ =
 (PureW PP 71 [.agg [B ng,.list (List.length dg) 1 (fun i=>encB (List.getD dg i default)) (.tok 0 1),I x]] [{neg:=ng,dig:=dg,ex:=x:Nm}.d] (trimF {neg:=ng,dig:=dg,ex:=x:Nm}).d∧(List.length q≤strM→True∧K (.tup [.agg [B (trimF {neg:=ng,dig:=dg,ex:=x:Nm}).neg,L (trimF {neg:=ng,dig:=dg,ex:=x:Nm}).dig 1 encB,I (trimF {neg:=ng,dig:=dg,ex:=x:Nm}).ex],B (a==(↑(List.length q):Int))]) {box:=upd (upd (fun _=>none) 0 (some (Row.lit [.str q]))) 1 (some (Row.lit [I a])),nl:=2,hw:=upd (fun _=>none) 0 (some (List.length dg)),nt:=1,vw:=fun _=>none:Heap})):=by kernel_rfl
end Go.Proofs.YtiekphbkomddfaaGreatDoor.S1
