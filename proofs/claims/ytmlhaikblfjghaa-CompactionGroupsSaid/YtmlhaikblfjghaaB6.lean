/- A contract proved in a small heap holds in every larger one. -/
import Derived.Test.YtmlhaikblfjghaaB5
namespace Go.Ab

/-- Box (or array) l of the small heap in the large one: the old ones by a list, new ones behind all. -/
def rnm (bs : List Nat) (m l : Nat) : Nat := match bs[l]? with | some x => x | none => m + (l - bs.length)

def renO (ft : Nat → Nat) : Own → Own
  | .tok t sz => .tok (ft t) sz
  | o => o

mutual
def ren (fb ft : Nat → Nat) : D → D
  | .bp l o => .bp (fb l) o
  | .sl l o n => .sl (fb l) o n
  | .mp l => .mp (fb l)
  | .vec t n sz => .vec (ft t) n sz
  | .be t n i sz j => .be (ft t) n i sz j
  | .list n sz get own => .list n sz get (renO ft own)
  | .agg cs => .agg (rens fb ft cs)
  | .tup cs => .tup (rens fb ft cs)
  | .clo f cs => .clo f (rens fb ft cs)
  | .ep cs => .ep (rens fb ft cs)
  | .iface t d => .iface t (ren fb ft d)
  | d => d
def rens (fb ft : Nat → Nat) : List D → List D
  | [] => []
  | d :: r => ren fb ft d :: rens fb ft r
end

mutual
/-- The elements of slices are plain data. -/
def RenOk : D → Prop
  | .list n _ get _ => ∀ i, i < n → Data (get i)
  | .agg cs => RenOks cs
  | .tup cs => RenOks cs
  | .clo _ cs => RenOks cs
  | .ep cs => RenOks cs
  | .iface _ d => RenOk d
  | _ => True
def RenOks : List D → Prop
  | [] => True
  | d :: r => RenOk d ∧ RenOks r
end

/-- Two ghost memories by a map of the names. -/
structure GMap (fb ft : Nat → Nat) (g0 g : G) : Prop where
  σ : ∀ a v, g0.σ a = some v → g.σ a = some v
  μ : ∀ l b, g0.μ l = some b → g.μ (fb l) = some b
  τ : ∀ t k, g0.τ t = some k → g.τ (ft t) = some k

mutual
theorem R.ren {fb ft : Nat → Nat} {g0 g : G} (m : GMap fb ft g0 g) : ∀ (d : D) (v : Value), RenOk d → R g0 d v → R g (ren fb ft d) v
  | .bool _, _, _, hr | .int _ _, _, _, hr | .str _, _, _, hr | .nilp, _, _, hr | .nilf, _, _, hr | .nili, _, _, hr | .nilm, _, _, hr => by simpa [R, ren] using hr
  | .own _, _, _, hr | .lp _ _, _, _, hr | .may _ _ _, _, _, hr | .junk, _, _, hr => by simp [R] at hr
  | .bp l o, _, _, hr => by simp only [R, ren] at hr ⊢; obtain ⟨b, e, hv⟩ := hr; exact ⟨b, m.μ _ _ e, hv⟩
  | .sl l o n, _, _, hr => by simp only [R, ren] at hr ⊢; obtain ⟨b, e, hv⟩ := hr; exact ⟨b, m.μ _ _ e, hv⟩
  | .mp l, _, _, hr => by simp only [R, ren] at hr ⊢; obtain ⟨b, e, hv⟩ := hr; exact ⟨b, m.μ _ _ e, hv⟩
  | .vec t n sz, _, _, hr => by simp only [R, ren] at hr ⊢; obtain ⟨h1, a, c, h2, h3, k, h4, h5⟩ := hr; exact ⟨h1, a, c, h2, h3, k, m.τ _ _ h4, h5⟩
  | .be t n i sz j, _, _, hr => by simp only [R, ren] at hr ⊢; obtain ⟨b, q, h1, h2, k, h4, h5⟩ := hr; exact ⟨b, q, h1, h2, k, m.τ _ _ h4, h5⟩
  | .list n sz get own, _, ho, hr => by
    simp only [RenOk] at ho
    simp only [R, ren] at hr ⊢
    obtain ⟨hn, a, cap, e, hnc, hown, hel⟩ := hr
    refine ⟨hn, a, cap, e, hnc, ?_, fun i hi => ?_⟩
    · cases own with
      | tok t tz => obtain ⟨k, h1, h2⟩ := hown; exact ⟨k, m.τ _ _ h1, h2⟩
      | _ => exact hown
    · obtain ⟨p, u, ha, hp, hu, hus, hc⟩ := hel i hi
      refine ⟨p, u, ha, hp, R.data m.σ (get i) u (ho i hi) hu, hus, fun j hj => ?_⟩
      have hj' : j < u.cells.size := by have := hus.1; omega
      have := hc j hj
      rw [Array.getElem?_eq_getElem hj'] at this ⊢
      exact m.σ _ _ this
  | .agg cs, _, ho, hr => by
    simp only [RenOk] at ho
    simp only [R, ren] at hr ⊢
    obtain ⟨vs, e, hs⟩ := hr
    exact ⟨vs, e, Rs.ren m cs vs ho hs⟩
  | .tup cs, _, ho, hr => by
    simp only [RenOk] at ho
    simp only [R, ren] at hr ⊢
    obtain ⟨vs, e, hs⟩ := hr
    exact ⟨vs, e, Rs.ren m cs vs ho hs⟩
  | .clo _ cs, _, ho, hr => by
    simp only [RenOk] at ho
    simp only [R, ren] at hr ⊢
    obtain ⟨vs, e, hs⟩ := hr
    exact ⟨vs, e, Rs.ren m cs vs ho hs⟩
  | .ep cs, _, ho, hr => by
    simp only [RenOk] at ho
    simp only [R, ren] at hr ⊢
    obtain ⟨p, vs, e, hp, hs, hc⟩ := hr
    refine ⟨p, vs, e, hp, Rs.ren m cs vs ho hs, fun j hj => ?_⟩
    have := hc j hj
    rw [List.getElem?_eq_getElem hj] at this ⊢
    exact m.σ _ _ this
  | .iface _ d, _, ho, hr => by
    simp only [RenOk] at ho
    simp only [R, ren] at hr ⊢
    obtain ⟨u, e, hs⟩ := hr
    exact ⟨u, e, R.ren m d u ho hs⟩
theorem Rs.ren {fb ft : Nat → Nat} {g0 g : G} (m : GMap fb ft g0 g) : ∀ (ds : List D) (vs : List Value), RenOks ds → Rs g0 ds vs → Rs g (rens fb ft ds) vs
  | [], _, _, hr => by simpa [Rs, rens] using hr
  | d :: ds, _, ho, hr => by
    simp only [RenOks] at ho
    simp only [Rs, rens] at hr ⊢
    obtain ⟨v, r, e, hv, hs⟩ := hr
    exact ⟨v, r, e, R.ren m d v ho.1 hv, Rs.ren m ds r ho.2 hs⟩
end

/-- The other way. -/
structure GBack (fb ft : Nat → Nat) (g0 g : G) : Prop where
  σ : ∀ a v, g.σ a = some v → g0.σ a = some v
  μ : ∀ l b, g.μ (fb l) = some b → g0.μ l = some b
  τ : ∀ t k, g.τ (ft t) = some k → g0.τ t = some k

mutual
theorem R.unren {fb ft : Nat → Nat} {g0 g : G} (m : GBack fb ft g0 g) : ∀ (d : D) (v : Value), RenOk d → R g (Ab.ren fb ft d) v → R g0 d v
  | .bool _, _, _, hr | .int _ _, _, _, hr | .str _, _, _, hr | .nilp, _, _, hr | .nilf, _, _, hr | .nili, _, _, hr | .nilm, _, _, hr => by simpa [R, Ab.ren] using hr
  | .own _, _, _, hr | .lp _ _, _, _, hr | .may _ _ _, _, _, hr | .junk, _, _, hr => by simp [R, Ab.ren] at hr
  | .bp l o, _, _, hr => by simp only [R, Ab.ren] at hr ⊢; obtain ⟨b, e, hv⟩ := hr; exact ⟨b, m.μ _ _ e, hv⟩
  | .sl l o n, _, _, hr => by simp only [R, Ab.ren] at hr ⊢; obtain ⟨b, e, hv⟩ := hr; exact ⟨b, m.μ _ _ e, hv⟩
  | .mp l, _, _, hr => by simp only [R, Ab.ren] at hr ⊢; obtain ⟨b, e, hv⟩ := hr; exact ⟨b, m.μ _ _ e, hv⟩
  | .vec t n sz, _, _, hr => by simp only [R, Ab.ren] at hr ⊢; obtain ⟨h1, a, c, h2, h3, k, h4, h5⟩ := hr; exact ⟨h1, a, c, h2, h3, k, m.τ _ _ h4, h5⟩
  | .be t n i sz j, _, _, hr => by simp only [R, Ab.ren] at hr ⊢; obtain ⟨b, q, h1, h2, k, h4, h5⟩ := hr; exact ⟨b, q, h1, h2, k, m.τ _ _ h4, h5⟩
  | .list n sz get own, _, ho, hr => by
    simp only [RenOk] at ho
    simp only [R, Ab.ren] at hr ⊢
    obtain ⟨hn, a, cap, e, hnc, hown, hel⟩ := hr
    refine ⟨hn, a, cap, e, hnc, ?_, fun i hi => ?_⟩
    · cases own with
      | tok t tz => obtain ⟨k, h1, h2⟩ := hown; exact ⟨k, m.τ _ _ h1, h2⟩
      | _ => exact hown
    · obtain ⟨p, u, ha, hp, hu, hus, hc⟩ := hel i hi
      refine ⟨p, u, ha, hp, R.data m.σ (get i) u (ho i hi) hu, hus, fun j hj => ?_⟩
      have hj' : j < u.cells.size := by have := hus.1; omega
      have := hc j hj
      rw [Array.getElem?_eq_getElem hj'] at this ⊢
      exact m.σ _ _ this
  | .agg cs, _, ho, hr => by
    simp only [RenOk] at ho
    simp only [R, Ab.ren] at hr ⊢
    obtain ⟨vs, e, hs⟩ := hr
    exact ⟨vs, e, Rs.unren m cs vs ho hs⟩
  | .tup cs, _, ho, hr => by
    simp only [RenOk] at ho
    simp only [R, Ab.ren] at hr ⊢
    obtain ⟨vs, e, hs⟩ := hr
    exact ⟨vs, e, Rs.unren m cs vs ho hs⟩
  | .clo _ cs, _, ho, hr => by
    simp only [RenOk] at ho
    simp only [R, Ab.ren] at hr ⊢
    obtain ⟨vs, e, hs⟩ := hr
    exact ⟨vs, e, Rs.unren m cs vs ho hs⟩
  | .ep cs, _, ho, hr => by
    simp only [RenOk] at ho
    simp only [R, Ab.ren] at hr ⊢
    obtain ⟨p, vs, e, hp, hs, hc⟩ := hr
    refine ⟨p, vs, e, hp, Rs.unren m cs vs ho hs, fun j hj => ?_⟩
    have := hc j hj
    rw [List.getElem?_eq_getElem hj] at this ⊢
    exact m.σ _ _ this
  | .iface _ d, _, ho, hr => by
    simp only [RenOk] at ho
    simp only [R, Ab.ren] at hr ⊢
    obtain ⟨u, e, hs⟩ := hr
    exact ⟨u, e, R.unren m d u ho hs⟩
theorem Rs.unren {fb ft : Nat → Nat} {g0 g : G} (m : GBack fb ft g0 g) : ∀ (ds : List D) (vs : List Value), RenOks ds → Rs g (rens fb ft ds) vs → Rs g0 ds vs
  | [], _, _, hr => by simpa [Rs, rens] using hr
  | d :: ds, _, ho, hr => by
    simp only [RenOks] at ho
    simp only [Rs, rens] at hr ⊢
    obtain ⟨v, r, e, hv, hs⟩ := hr
    exact ⟨v, r, e, R.unren m d v ho.1 hv, Rs.unren m ds r ho.2 hs⟩
end

def renRow (fb ft : Nat → Nat) : Row → Row
  | .lit cs => .lit (rens fb ft cs)
  | .arr n get => .arr n get
def RowRenOk : Row → Prop
  | .lit cs => RenOks cs
  | .arr n get => ∀ i, i < n → Data (get i)

theorem RowAt.ren {fb ft : Nat → Nat} {g0 g : G} (m : GMap fb ft g0 g) {w w' : World} {b : Nat} {row : Row} (h : RowAt g0 w b row) (ho : RowRenOk row) (e : w'.heap[b]? = w.heap[b]?) : RowAt g w' b (renRow fb ft row) := by
  obtain ⟨T, vals, hb, hr⟩ := h
  refine ⟨T, vals, e.trans hb, ?_⟩
  cases row with
  | lit cs => exact Rs.ren m _ _ ho hr
  | arr n get => exact ⟨hr.1, fun i hi => by obtain ⟨v, hv, h1⟩ := hr.2 i hi; exact ⟨v, hv, R.data m.σ _ _ (ho i hi) h1⟩⟩
theorem RowAt.unren {fb ft : Nat → Nat} {g0 g : G} (m : GBack fb ft g0 g) {w : World} {b : Nat} {row : Row} (h : RowAt g w b (renRow fb ft row)) (ho : RowRenOk row) : RowAt g0 w b row := by
  obtain ⟨T, vals, hb, hr⟩ := h
  refine ⟨T, vals, hb, ?_⟩
  cases row with
  | lit cs => exact Rs.unren m _ _ ho hr
  | arr n get => exact ⟨hr.1, fun i hi => by obtain ⟨v, hv, h1⟩ := hr.2 i hi; exact ⟨v, hv, R.data m.σ _ _ (ho i hi) h1⟩⟩

/-- f with the values of q at ρ 0, .. ρ (n-1). -/
def updN {α : Type} (f : Nat → α) (ρ : Nat → Nat) (q : Nat → α) : Nat → Nat → α
  | 0 => f
  | n + 1 => upd (updN f ρ q n) (ρ n) (q n)

theorem updN_in {α : Type} {f : Nat → α} {ρ : Nat → Nat} {q : Nat → α} : ∀ {n l : Nat}, (∀ i j, i < n → j < n → ρ i = ρ j → i = j) → l < n → updN f ρ q n (ρ l) = q l
  | 0, _, _, h => by omega
  | n + 1, l, hi, h => by
    simp only [updN]
    by_cases hx : l = n
    · subst hx; exact upd_same _ _ _
    · rw [upd_other _ _ (fun e => hx (hi _ _ h (Nat.lt_succ_self n) e))]
      exact updN_in (fun i j a b => hi i j (by omega) (by omega)) (by omega)

theorem updN_out {α : Type} {f : Nat → α} {ρ : Nat → Nat} {q : Nat → α} : ∀ {n x : Nat}, (∀ l, l < n → ρ l ≠ x) → updN f ρ q n x = f x
  | 0, _, _ => rfl
  | n + 1, x, h => by
    simp only [updN]
    rw [upd_other _ _ (fun e => h n (Nat.lt_succ_self n) e.symm)]
    exact updN_out fun l hl => h l (by omega)

/-- The large heap behind a call in the small one. -/
def frameH (bs ts : List Nat) (H h' : Heap) : Heap :=
  ⟨updN H.box (rnm bs H.nl) (fun l => (h'.box l).map (renRow (rnm bs H.nl) (rnm ts H.nt))) h'.nl, H.nl + (h'.nl - bs.length), updN H.hw (rnm ts H.nt) h'.hw h'.nt, H.nt + (h'.nt - ts.length), updN H.vw (rnm ts H.nt) h'.vw h'.nt⟩

/-- Nothing from n on. -/
class Dom {α : Type} (f : Nat → Option α) (n : Nat) : Prop where
  p : ∀ l, n ≤ l → f l = none
instance {α : Type} {n : Nat} : Dom (fun _ => (none : Option α)) n := ⟨fun _ _ => rfl⟩
instance {α : Type} {f : Nat → Option α} {k m : Nat} {v : Option α} [h : Dom f (m + k + 1)] : Dom (upd f k v) (m + k + 1) := ⟨fun l hl => by rw [upd_other _ _ (by omega)]; exact h.p l hl⟩

class RO (d : D) : Prop where
  p : RenOk d
class ROs (ds : List D) : Prop where
  p : RenOks ds
class RB (f : Nat → Option Row) : Prop where
  p : ∀ l row, f l = some row → RowRenOk row
class RV (hw : Nat → Option Nat) (vw : Nat → Option (Nat → D)) : Prop where
  p : ∀ t n f, hw t = some n → vw t = some f → ∀ i, i < n → Data (f i)

theorem rnm_in {bs : List Nat} {m l x : Nat} (h : bs[l]? = some x) : rnm bs m l = x := by simp [rnm, h]
theorem rnm_out {bs : List Nat} {m l : Nat} (h : bs.length ≤ l) : rnm bs m l = m + (l - bs.length) := by simp [rnm, List.getElem?_eq_none h]

theorem rnm_inj {bs : List Nat} {m : Nat} (hn : bs.Nodup) (hm : ∀ x ∈ bs, x < m) {i j : Nat} (h : rnm bs m i = rnm bs m j) : i = j := by
  rcases Nat.lt_or_ge i bs.length with hi | hi <;> rcases Nat.lt_or_ge j bs.length with hj | hj
  · rw [rnm_in (List.getElem?_eq_getElem hi), rnm_in (List.getElem?_eq_getElem hj)] at h
    exact (List.getElem_inj hn).1 h
  · rw [rnm_in (List.getElem?_eq_getElem hi), rnm_out hj] at h
    have := hm _ (List.getElem_mem hi); omega
  · rw [rnm_out hi, rnm_in (List.getElem?_eq_getElem hj)] at h
    have := hm _ (List.getElem_mem hj); omega
  · rw [rnm_out hi, rnm_out hj] at h; omega

/-- The inverse. -/
def unr (bs : List Nat) (m x : Nat) : Option Nat := if x ∈ bs then bs.idxOf? x else if m ≤ x then some (x - m + bs.length) else none

theorem unr_rnm {bs : List Nat} {m : Nat} (hn : bs.Nodup) (hm : ∀ x ∈ bs, x < m) (l : Nat) : unr bs m (rnm bs m l) = some l := by
  unfold unr
  rcases Nat.lt_or_ge l bs.length with hi | hi
  · have h1 := rnm_in (m := m) (List.getElem?_eq_getElem hi)
    rw [h1, if_pos (List.getElem_mem hi)]
    have : bs.idxOf? bs[l] = some l := by
      rw [List.idxOf?_eq_some_iff]
      refine ⟨hi, rfl, fun j hj => ?_⟩
      intro h
      have h := (List.getElem_inj hn).1 h
      omega
    exact this
  · rw [rnm_out hi, if_neg (fun h => by have := hm _ h; omega), if_pos (by omega)]
    congr 1; omega

theorem unr_some {bs : List Nat} {m x l : Nat} (h : unr bs m x = some l) : rnm bs m l = x := by
  unfold unr at h
  split at h
  · rw [List.idxOf?_eq_some_iff] at h
    obtain ⟨h1, h2, _⟩ := h
    exact rnm_in (by rw [List.getElem?_eq_getElem h1, h2])
  · split at h
    · cases h
      rw [rnm_out (by omega)]; omega
    · cases h

theorem unr_none {bs : List Nat} {m x : Nat} (h : unr bs m x = none) : x ∉ bs ∧ x < m := by
  unfold unr at h
  split at h
  · rename_i hx
    rw [List.idxOf?_eq_none_iff] at h
    exact absurd hx h
  · rename_i hx
    split at h
    · cases h
    · exact ⟨hx, by omega⟩

end Go.Ab
/- A contract proved in a small heap holds in every larger one: the theorem. -/
namespace Go.Ab

theorem map_range {α β : Type} {n : Nat} {f : Nat → α} {bs : List β} {q : β → α} (h : (List.range n).map f = bs.map q) : n = bs.length ∧ ∀ l x, bs[l]? = some x → f l = q x := by
  have hl : n = bs.length := by have := congrArg List.length h; simpa using this
  refine ⟨hl, fun l x hx => ?_⟩
  have h1 := congrArg (fun (l' : List α) => l'[l]?) h
  simp only [List.getElem?_map, hx, Option.map_some] at h1
  have hlt : l < n := by
    rcases Nat.lt_or_ge l bs.length with h | h
    · omega
    · rw [List.getElem?_eq_none h] at hx; cases hx
  rw [List.getElem?_range hlt] at h1
  simpa using h1

theorem Does.frame {P : Program} {f : Nat} {args : List D} {v : D} {bx : Nat → Option Row} {nl nt : Nat} {hw : Nat → Option Nat} {vw : Nat → Option (Nat → D)} {bx' : Nat → Option Row} {nl' nt' : Nat} {hw' : Nat → Option Nat} {vw' : Nat → Option (Nat → D)} {H : Heap}
    (c : Does P f args ⟨bx, nl, hw, nt, vw⟩ v ⟨bx', nl', hw', nt', vw'⟩) [d1 : Dom bx nl] [d2 : Dom hw nt] [d3 : Dom vw nt] [a1 : ROs args] [a2 : RO v] [a3 : RB bx] [a4 : RV hw vw] [a5 : RB bx'] [a6 : RV hw' vw']
    (bs ts : List Nat) (k : (decide (bs.Nodup ∧ ts.Nodup ∧ nl ≤ nl' ∧ nt ≤ nt') && bs.all (Nat.blt · H.nl) && ts.all (Nat.blt · H.nt)) = true)
    (m1 : (List.range nl).map (fun l => (bx l).map (renRow (rnm bs H.nl) (rnm ts H.nt))) = bs.map H.box) (m2 : (List.range nt).map hw = ts.map H.hw) (m3 : (List.range nt).map vw = ts.map H.vw) :
    Does P f (rens (rnm bs H.nl) (rnm ts H.nt) args) H (ren (rnm bs H.nl) (rnm ts H.nt) v) (frameH bs ts H ⟨bx', nl', hw', nt', vw'⟩) := by
  simp only [Bool.and_eq_true, decide_eq_true_eq, List.all_eq_true, Nat.blt_eq] at k
  obtain ⟨⟨⟨nb, nn, l1, l2⟩, hbm⟩, htm⟩ := k
  obtain ⟨e1, q1⟩ := map_range m1
  obtain ⟨e2, q2⟩ := map_range m2
  obtain ⟨_, q3⟩ := map_range m3
  clear m1 m2 m3
  subst e1; subst e2
  have okF := (c (fun _ _ => True) trivial).ok
  refine Does.of_calls okF fun g U w vs i hs => ?_
  generalize hfb : rnm bs H.nl = fb at *
  generalize hft : rnm ts H.nt = ft at *
  have fbIn : ∀ {l x}, bs[l]? = some x → fb l = x := fun h => by rw [← hfb]; exact rnm_in h
  have ftIn : ∀ {l x}, ts[l]? = some x → ft l = x := fun h => by rw [← hft]; exact rnm_in h
  have fbOut : ∀ {l}, bs.length ≤ l → H.nl ≤ fb l := fun h => by rw [← hfb, rnm_out h]; omega
  have ftOut : ∀ {l}, ts.length ≤ l → H.nt ≤ ft l := fun h => by rw [← hft, rnm_out h]; omega
  have fbInj : ∀ {i j}, fb i = fb j → i = j := fun h => by rw [← hfb] at h; exact rnm_inj nb hbm h
  have ftInj : ∀ {i j}, ft i = ft j → i = j := fun h => by rw [← hft] at h; exact rnm_inj nn htm h
  have fbMem : ∀ {l}, l < bs.length → fb l ∈ bs := fun h => by rw [fbIn (List.getElem?_eq_getElem h)]; exact List.getElem_mem h
  have ftMem : ∀ {l}, l < ts.length → ft l ∈ ts := fun h => by rw [ftIn (List.getElem?_eq_getElem h)]; exact List.getElem_mem h
  have boxAt : ∀ {l row}, bx l = some row → l < bs.length ∧ H.box (fb l) = some (renRow fb ft row) := fun {l row} h => by
    have hl : l < bs.length := by
      rcases Nat.lt_or_ge l bs.length with h1 | h1
      · exact h1
      · rw [d1.p l h1] at h; cases h
    have h1 := List.getElem?_eq_getElem hl
    have h2 := q1 l _ h1
    rw [h] at h2
    exact ⟨hl, by rw [fbIn h1, ← h2]; rfl⟩
  have hwAt : ∀ {t n}, hw t = some n → t < ts.length ∧ H.hw (ft t) = some n ∧ H.vw (ft t) = vw t := fun {t n} h => by
    have hl : t < ts.length := by
      rcases Nat.lt_or_ge t ts.length with h1 | h1
      · exact h1
      · rw [d2.p t h1] at h; cases h
    have h1 := List.getElem?_eq_getElem hl
    exact ⟨hl, by rw [ftIn h1, ← q2 t _ h1, h], by rw [ftIn h1, ← q3 t _ h1]⟩
  -- the small ghost memory
  let g0 : G := ⟨g.σ, fun l => if l < bs.length then g.μ (fb l) else none, fun t => if t < ts.length then g.τ (ft t) else none⟩
  have back : GBack fb ft g0 g := by
    refine ⟨fun _ _ h => h, fun l b h => ?_, fun t k h => ?_⟩
    · show (if l < bs.length then g.μ (fb l) else none) = some b
      rcases Nat.lt_or_ge l bs.length with h1 | h1
      · rw [if_pos h1]; exact h
      · rw [i.frL _ (fbOut h1)] at h; cases h
    · show (if t < ts.length then g.τ (ft t) else none) = some k
      rcases Nat.lt_or_ge t ts.length with h1 | h1
      · rw [if_pos h1]; exact h
      · rw [i.frT _ (ftOut h1)] at h; cases h
  have μ0 : ∀ {l b}, g0.μ l = some b → l < bs.length ∧ g.μ (fb l) = some b := fun {l b} h => by
    have h' : (if l < bs.length then g.μ (fb l) else none) = some b := h
    split at h'
    · rename_i hl; exact ⟨hl, h'⟩
    · cases h'
  have τ0 : ∀ {t k}, g0.τ t = some k → t < ts.length ∧ g.τ (ft t) = some k := fun {t k} h => by
    have h' : (if t < ts.length then g.τ (ft t) else none) = some k := h
    split at h'
    · rename_i hl; exact ⟨hl, h'⟩
    · cases h'
  let U0 : Nat → Prop := fun b => U b ∨ (∃ x, H.box x ≠ none ∧ x ∉ bs ∧ g.μ x = some b) ∨ ∃ t n k, H.hw t = some n ∧ t ∉ ts ∧ g.τ t = some k ∧ Actv k (H.vw t) ∧ k.a = some ⟨b, 0, none⟩
  have i0 : Inv g0 U0 ⟨bx, bs.length, hw, ts.length, vw⟩ w := by
    refine ⟨i.sub, fun b hb => ?_, fun l b e => i.muLt _ b (μ0 e).2, fun l row e => ?_, fun l l' b e e' f1 f2 => ?_, fun t n e => ?_, fun t n k b l e f1 f2 f3 f4 f5 => ?_, fun t t' n n' k k' b e e' f1 f2 p1 p2 p3 p4 => ?_, fun l hl => ?_, fun t ht => ?_, fun t ht => d3.p t ht⟩
    · rcases hb with hb | ⟨x, h1, _, h2⟩ | ⟨t, n, k, h1, _, h2, h3, h4⟩
      · exact i.ub b hb
      · exact i.muLt x b h2
      · obtain ⟨k', f1, _, f3⟩ := i.tok t n h1
        rw [h2] at f1; cases f1
        obtain ⟨b', c1, c2, _⟩ := (f3 h3).blockLt
        rw [h4] at c1; cases c1; exact c2
    · obtain ⟨hl, hH⟩ := boxAt e
      obtain ⟨b, f1, f2, f3, f4⟩ := i.box _ _ hH
      refine ⟨b, back.μ _ _ f1, f2.unren back (a3.p l row e), fun hu => ?_, f4⟩
      rcases hu with hu | ⟨x, h1, h2, h3⟩ | ⟨t, n, k, h1, _, h2, h3, h4⟩
      · exact f3 hu
      · have := i.boxInj (fb l) x b (by rw [hH]; simp) h1 f1 h3
        exact h2 (this ▸ fbMem hl)
      · exact i.tokBox t n k b (fb l) h1 h2 h3 h4 (by rw [hH]; simp) f1
    · have live : ∀ {l}, bx l ≠ none → H.box (fb l) ≠ none := fun {l} h => by
        cases hb : bx l with
        | none => exact absurd hb h
        | some row => rw [(boxAt hb).2]; simp
      exact fbInj (i.boxInj _ _ b (live e) (live e') (μ0 f1).2 (μ0 f2).2)
    · obtain ⟨hl, hH, hV⟩ := hwAt e
      obtain ⟨k, f1, f2, f3⟩ := i.tok _ n hH
      refine ⟨k, back.τ _ _ f1, f2, fun ha => ?_⟩
      have ha' : Actv k (vw t) := ha
      rw [hV] at f3
      obtain ⟨b, c1, c2, T, vals, c3, c4, c5, c6⟩ := f3 ha'
      refine ⟨b, c1, fun hu => ?_, T, vals, c3, c4, c5, fun q hq => ⟨(c6 q hq).1, fun j hj => ?_⟩⟩
      · rcases hu with hu | ⟨x, h1, h2, h3⟩ | ⟨t', n', k', h1, h2, h3, h4, h5⟩
        · exact c2 hu
        · exact i.tokBox _ n k b x hH f1 (by rw [hV]; exact ha') c1 h1 h3
        · have := i.tokInj _ t' n n' k k' b hH h1 f1 h3 (by rw [hV]; exact ha') h4 c1 h5
          exact h2 (this ▸ ftMem hl)
      · obtain ⟨u, h1, h2⟩ := (c6 q hq).2 j hj
        exact ⟨u, R.data (g := g) (g' := g0) (fun _ _ h => h) _ _ (a4.p t n q e hq j (by omega)) h1, h2⟩
    · obtain ⟨_, hH, hV⟩ := hwAt e
      have f2' : Actv k (vw t) := f2
      refine i.tokBox _ n k b (fb l) hH (τ0 f1).2 (by rw [hV]; exact f2') f3 ?_ (μ0 f5).2
      cases hb : bx l with
      | none => exact absurd hb f4
      | some row => rw [(boxAt hb).2]; simp
    · obtain ⟨_, hH, hV⟩ := hwAt e
      obtain ⟨_, hH', hV'⟩ := hwAt e'
      have p1' : Actv k (vw t) := p1
      have p2' : Actv k' (vw t') := p2
      exact ftInj (i.tokInj _ _ n n' k k' b hH hH' (τ0 f1).2 (τ0 f2).2 (by rw [hV]; exact p1') (by rw [hV']; exact p2') p3 p4)
    · have hl' : bs.length ≤ l := hl
      show (if l < bs.length then g.μ (fb l) else none) = none
      rw [if_neg (by omega)]
    · have ht' : ts.length ≤ t := ht
      show (if t < ts.length then g.τ (ft t) else none) = none
      rw [if_neg (by omega)]
  have hs0 := Rs.unren back args vs a1.p hs
  refine Calls.mono ((c (fun d hh => d = v ∧ hh = ⟨bx', nl', hw', nt', vw'⟩) ⟨rfl, rfl⟩).calls g0 U0 w vs i0 hs0) fun e w' ⟨x, g1, d, hh, h1, h2, i1, gr1, kp, hd, hhh⟩ => ?_
  subst hd; subst hhh
  let g2 : G := ⟨g1.σ, fun x => match unr bs H.nl x with | some l => g1.μ l | none => g.μ x, fun x => match unr ts H.nt x with | some t => g1.τ t | none => g.τ x⟩
  have μ2 : ∀ l, g2.μ (fb l) = g1.μ l := fun l => by
    show (match unr bs H.nl (fb l) with | some l => g1.μ l | none => g.μ (fb l)) = _
    rw [← hfb, unr_rnm nb hbm]
  have τ2 : ∀ t, g2.τ (ft t) = g1.τ t := fun t => by
    show (match unr ts H.nt (ft t) with | some l => g1.τ l | none => g.τ (ft t)) = _
    rw [← hft, unr_rnm nn htm]
  have xB : ∀ x, (∃ l, fb l = x) ∨ (unr bs H.nl x = none ∧ x ∉ bs ∧ x < H.nl ∧ g2.μ x = g.μ x) := fun x => by
    cases hx : unr bs H.nl x with
    | some l => exact .inl ⟨l, by rw [← hfb]; exact unr_some hx⟩
    | none => exact .inr ⟨rfl, (unr_none hx).1, (unr_none hx).2, by show (match unr bs H.nl x with | some l => g1.μ l | none => g.μ x) = _; rw [hx]⟩
  have xT : ∀ x, (∃ l, ft l = x) ∨ (unr ts H.nt x = none ∧ x ∉ ts ∧ x < H.nt ∧ g2.τ x = g.τ x) := fun x => by
    cases hx : unr ts H.nt x with
    | some l => exact .inl ⟨l, by rw [← hft]; exact unr_some hx⟩
    | none => exact .inr ⟨rfl, (unr_none hx).1, (unr_none hx).2, by show (match unr ts H.nt x with | some l => g1.τ l | none => g.τ x) = _; rw [hx]⟩
  have fmap : GMap fb ft g1 g2 := ⟨fun _ _ h => h, fun l b h => by rw [μ2]; exact h, fun t k h => by rw [τ2]; exact h⟩
  have le : G.le g g2 := by
    refine ⟨fun a u h => gr1.le.σ a u h, fun y b h => ?_, fun y k h => ?_⟩
    · rcases xB y with ⟨l, rfl⟩ | ⟨_, _, _, h9⟩
      · rw [μ2]; exact gr1.le.μ l b (back.μ l b h)
      · rw [h9]; exact h
    · rcases xT y with ⟨l, rfl⟩ | ⟨_, _, _, h9⟩
      · rw [τ2]; exact gr1.le.τ l k (back.τ l k h)
      · rw [h9]; exact ⟨k, h, rfl, Nat.le_refl _, fun _ => rfl⟩
  have σnew : ∀ a u, g2.σ a = some u → g.σ a = some u ∨ ¬ U0 a.block := fun a u h => gr1.new a u h
  have notIn : ∀ {x n}, x ∉ bs → x < H.nl → ∀ l, l < n → fb l ≠ x := fun {x n} h1 h2 l _ he => by
    rcases Nat.lt_or_ge l bs.length with hl | hl
    · exact h1 (he ▸ fbMem hl)
    · have := fbOut hl; omega
  have notInT : ∀ {x n}, x ∉ ts → x < H.nt → ∀ l, l < n → ft l ≠ x := fun {x n} h1 h2 l _ he => by
    rcases Nat.lt_or_ge l ts.length with hl | hl
    · exact h1 (he ▸ ftMem hl)
    · have := ftOut hl; omega
  -- a box of the large heap behind the call
  have boxA : ∀ {y row}, (frameH bs ts H ⟨bx', nl', hw', nt', vw'⟩).box y = some row → (∃ l row0, l < nl' ∧ fb l = y ∧ bx' l = some row0 ∧ row = renRow fb ft row0) ∨ (y ∉ bs ∧ y < H.nl ∧ H.box y = some row ∧ g2.μ y = g.μ y) := fun {y row} h => by
    have h' : updN H.box fb (fun l => (bx' l).map (renRow fb ft)) nl' y = some row := by rw [← hfb, ← hft]; exact h
    rcases xB y with ⟨l, rfl⟩ | ⟨_, h1, h2, h3⟩
    · rcases Nat.lt_or_ge l nl' with hl | hl
      · rw [updN_in (fun _ _ _ _ e => fbInj e) hl] at h'
        cases hb : bx' l with
        | none => simp only [hb, Option.map_none] at h'; cases h'
        | some row0 =>
          simp only [hb, Option.map_some, Option.some.injEq] at h'
          exact .inl ⟨l, row0, hl, rfl, hb, h'.symm⟩
      · rw [updN_out (fun j hj e => by have := fbInj e; omega)] at h'
        obtain ⟨b, f1, _⟩ := i.box _ _ h'
        rw [i.frL _ (fbOut (by omega))] at f1; cases f1
    · rw [updN_out (notIn h1 h2)] at h'
      exact .inr ⟨h1, h2, h', h3⟩
  have tokA : ∀ {y n}, (frameH bs ts H ⟨bx', nl', hw', nt', vw'⟩).hw y = some n → (∃ t, t < nt' ∧ ft t = y ∧ hw' t = some n ∧ (frameH bs ts H ⟨bx', nl', hw', nt', vw'⟩).vw y = vw' t) ∨ (y ∉ ts ∧ y < H.nt ∧ H.hw y = some n ∧ (frameH bs ts H ⟨bx', nl', hw', nt', vw'⟩).vw y = H.vw y ∧ g2.τ y = g.τ y) := fun {y n} h => by
    have h' : updN H.hw ft hw' nt' y = some n := by rw [← hft]; exact h
    have hv : (frameH bs ts H ⟨bx', nl', hw', nt', vw'⟩).vw = updN H.vw ft vw' nt' := by rw [← hft]; rfl
    rw [hv]
    rcases xT y with ⟨t, rfl⟩ | ⟨_, h1, h2, h3⟩
    · rcases Nat.lt_or_ge t nt' with hl | hl
      · rw [updN_in (fun _ _ _ _ e => ftInj e) hl] at h'
        exact .inl ⟨t, hl, rfl, h', updN_in (fun _ _ _ _ e => ftInj e) hl⟩
      · rw [updN_out (fun j hj e => by have := ftInj e; omega)] at h'
        obtain ⟨k, f1, _⟩ := i.tok _ _ h'
        rw [i.frT _ (ftOut (by omega))] at f1; cases f1
    · rw [updN_out (notInT h1 h2)] at h'
      exact .inr ⟨h1, h2, h', updN_out (notInT h1 h2), h3⟩
  have uBox : ∀ {y b}, H.box y ≠ none → y ∉ bs → g.μ y = some b → U0 b := fun h1 h2 h3 => .inr (.inl ⟨_, h1, h2, h3⟩)
  have uTok : ∀ {y n k b}, H.hw y = some n → y ∉ ts → g.τ y = some k → Actv k (H.vw y) → k.a = some ⟨b, 0, none⟩ → U0 b := fun h1 h2 h3 h4 h5 => .inr (.inr ⟨_, _, _, h1, h2, h3, h4, h5⟩)
  have box1 : ∀ {l row0}, bx' l = some row0 → ∃ b, g1.μ l = some b ∧ ¬ U0 b := fun h => by
    obtain ⟨b, f1, _, f3, _⟩ := i1.box _ _ h
    exact ⟨b, f1, f3⟩
  have tok1 : ∀ {t n k b}, hw' t = some n → g1.τ t = some k → Actv k (vw' t) → k.a = some ⟨b, 0, none⟩ → ¬ U0 b := fun {t n k b} e1 e2 e3 e4 => by
    obtain ⟨k', f1, _, f3⟩ := i1.tok t n e1
    rw [e2] at f1; cases f1
    obtain ⟨b', c1, c2, _⟩ := f3 e3
    rw [e4] at c1; cases c1; exact c2
  have i2 : Inv g2 U (frameH bs ts H ⟨bx', nl', hw', nt', vw'⟩) w' := by
    refine ⟨i1.sub, fun b hb => i1.ub b (.inl hb), fun y b e => ?_, fun y row e => ?_, fun y y' b e e' f1 f2 => ?_, fun y n e => ?_, fun y n k b l e f1 f2 f3 f4 f5 => ?_, fun y y' n n' k k' b e e' f1 f2 p1 p2 p3 p4 => ?_, fun y hy => ?_, fun y hy => ?_, fun y hy => ?_⟩
    · rcases xB y with ⟨l, rfl⟩ | ⟨_, _, _, h9⟩
      · rw [μ2] at e; exact i1.muLt l b e
      · rw [h9] at e; exact Nat.lt_of_lt_of_le (i.muLt y b e) kp.size
    · rcases boxA e with ⟨l, row0, h3, rfl, h4, rfl⟩ | ⟨h3, h4, h5, h6⟩
      · obtain ⟨b, f1, f2, f3, f4⟩ := i1.box l row0 h4
        exact ⟨b, by rw [μ2]; exact f1, f2.ren fmap (a5.p l row0 h4) rfl, fun hu => f3 (.inl hu), f4⟩
      · obtain ⟨b, f1, f2, f3, f4⟩ := i.box y row h5
        have hu := uBox (by rw [h5]; simp) h3 f1
        refine ⟨b, by rw [h6]; exact f1, f2.mono le (kp.block b hu), f3, fun a u ha hb => ?_⟩
        rcases σnew a u ha with h7 | h7
        · exact f4 a u h7 hb
        · exact h7 (by rw [hb]; exact hu)
    · have key : ∀ {y}, (frameH bs ts H ⟨bx', nl', hw', nt', vw'⟩).box y ≠ none → ∃ row, (frameH bs ts H ⟨bx', nl', hw', nt', vw'⟩).box y = some row := fun {y} h => by
        cases hb : (frameH bs ts H ⟨bx', nl', hw', nt', vw'⟩).box y with
        | none => exact absurd hb h
        | some row => exact ⟨row, rfl⟩
      obtain ⟨row, hr⟩ := key e
      obtain ⟨row', hr'⟩ := key e'
      rcases boxA hr with ⟨l, row0, h3, rfl, h4, rfl⟩ | ⟨h3, h4, h5, h6⟩
      · rw [μ2] at f1
        rcases boxA hr' with ⟨l', row0', h3', rfl, h4', rfl⟩ | ⟨h3', h4', h5', h6'⟩
        · rw [μ2] at f2
          rw [i1.boxInj l l' b (by show bx' l ≠ none; rw [h4]; simp) (by show bx' l' ≠ none; rw [h4']; simp) f1 f2]
        · rw [h6'] at f2
          obtain ⟨b', q1, q2⟩ := box1 h4
          rw [f1] at q1; cases q1
          exact absurd (uBox (by rw [h5']; simp) h3' f2) q2
      · rw [h6] at f1
        rcases boxA hr' with ⟨l', row0', h3', rfl, h4', rfl⟩ | ⟨h3', h4', h5', h6'⟩
        · rw [μ2] at f2
          obtain ⟨b', q1, q2⟩ := box1 h4'
          rw [f2] at q1; cases q1
          exact absurd (uBox (by rw [h5]; simp) h3 f1) q2
        · rw [h6'] at f2
          exact i.boxInj y y' b (by rw [h5]; simp) (by rw [h5']; simp) f1 f2
    · rcases tokA e with ⟨t, h3, rfl, h4, h5⟩ | ⟨h3, h4, h5, h6, h7⟩
      · obtain ⟨k, f1, f2, f3⟩ := i1.tok t n h4
        refine ⟨k, by rw [τ2]; exact f1, f2, fun ha => ?_⟩
        rw [h5] at ha ⊢
        obtain ⟨b, c1, c2, T, vals, c3, c4, c5, c6⟩ := f3 ha
        refine ⟨b, c1, fun hu => c2 (.inl hu), T, vals, c3, c4, c5, fun q hq => ⟨(c6 q hq).1, fun j hj => ?_⟩⟩
        obtain ⟨u, q1, q2⟩ := (c6 q hq).2 j hj
        exact ⟨u, R.data (g := g1) (g' := g2) (fun _ _ h => h) _ _ (a6.p t n q h4 hq j (by omega)) q1, q2⟩
      · obtain ⟨k, f1, f2, f3⟩ := i.tok y n h5
        refine ⟨k, by rw [h7]; exact f1, f2, fun ha => ?_⟩
        rw [h6] at ha ⊢
        refine (f3 ha).mono le fun b hb _ => ?_
        have hu := uTok h5 h3 f1 ha hb
        refine ⟨kp.block b hu, fun j hj => ?_⟩
        cases hx : g2.σ ⟨b, j, none⟩ with
        | none => rfl
        | some u =>
          rcases σnew _ u hx with h8 | h8
          · rw [hj] at h8; cases h8
          · exact absurd hu h8
    · have hrow : ∃ row, (frameH bs ts H ⟨bx', nl', hw', nt', vw'⟩).box l = some row := by
        cases hb : (frameH bs ts H ⟨bx', nl', hw', nt', vw'⟩).box l with
        | none => exact absurd hb f4
        | some row => exact ⟨row, rfl⟩
      obtain ⟨row, hr⟩ := hrow
      rcases tokA e with ⟨t, h3, rfl, h4, h5⟩ | ⟨h3, h4, h5, h6, h7⟩
      · rw [τ2] at f1
        rw [h5] at f2
        rcases boxA hr with ⟨l', row0, h3', rfl, h4', rfl⟩ | ⟨h3', h4', h5', h6'⟩
        · rw [μ2] at f5
          exact i1.tokBox t n k b l' h4 f1 f2 f3 (by show bx' l' ≠ none; rw [h4']; simp) f5
        · rw [h6'] at f5
          exact tok1 h4 f1 f2 f3 (uBox (by rw [h5']; simp) h3' f5)
      · rw [h7] at f1
        rw [h6] at f2
        rcases boxA hr with ⟨l', row0, h3', rfl, h4', rfl⟩ | ⟨h3', h4', h5', h6'⟩
        · rw [μ2] at f5
          obtain ⟨b', q1, q2⟩ := box1 h4'
          rw [f5] at q1; cases q1
          exact q2 (uTok h5 h3 f1 f2 f3)
        · rw [h6'] at f5
          exact i.tokBox y n k b l h5 f1 f2 f3 (by rw [h5']; simp) f5
    · rcases tokA e with ⟨t, h3, rfl, h4, h5⟩ | ⟨h3, h4, h5, h6, h7⟩
      · rw [τ2] at f1
        rw [h5] at p1
        rcases tokA e' with ⟨t', h3', rfl, h4', h5'⟩ | ⟨h3', h4', h5', h6', h7'⟩
        · rw [τ2] at f2
          rw [h5'] at p2
          rw [i1.tokInj t t' n n' k k' b h4 h4' f1 f2 p1 p2 p3 p4]
        · rw [h7'] at f2
          rw [h6'] at p2
          exact absurd (uTok h5' h3' f2 p2 p4) (tok1 h4 f1 p1 p3)
      · rw [h7] at f1
        rw [h6] at p1
        rcases tokA e' with ⟨t', h3', rfl, h4', h5'⟩ | ⟨h3', h4', h5', h6', h7'⟩
        · rw [τ2] at f2
          rw [h5'] at p2
          exact absurd (uTok h5 h3 f1 p1 p3) (tok1 h4' f2 p2 p4)
        · rw [h7'] at f2
          rw [h6'] at p2
          exact i.tokInj y y' n n' k k' b h5 h5' f1 f2 p1 p2 p3 p4
    · have hy' : H.nl + (nl' - bs.length) ≤ y := hy
      rcases xB y with ⟨l, rfl⟩ | ⟨_, _, h2, _⟩
      · rw [μ2]
        refine i1.frL l ?_
        show nl' ≤ l
        rcases Nat.lt_or_ge l bs.length with hl | hl
        · have := hbm _ (fbMem hl); omega
        · rw [← hfb, rnm_out hl] at hy'; omega
      · omega
    · have hy' : H.nt + (nt' - ts.length) ≤ y := hy
      rcases xT y with ⟨l, rfl⟩ | ⟨_, _, h2, _⟩
      · rw [τ2]
        refine i1.frT l ?_
        show nt' ≤ l
        rcases Nat.lt_or_ge l ts.length with hl | hl
        · have := htm _ (ftMem hl); omega
        · rw [← hft, rnm_out hl] at hy'; omega
      · omega
    · have hy' : H.nt + (nt' - ts.length) ≤ y := hy
      show updN H.vw (rnm ts H.nt) vw' nt' y = none
      rw [hft]
      rw [updN_out (fun j hj e => ?_)]
      · exact i.frV y (by omega)
      · rcases Nat.lt_or_ge j ts.length with hl | hl
        · have := htm _ (ftMem hl); omega
        · rw [← hft, rnm_out hl] at e; omega
  exact ⟨x, g2, h1, R.ren fmap d x a2.p h2, i2, ⟨le, fun a u h => by
    rcases σnew a u h with h8 | h8
    · exact .inl h8
    · exact .inr fun hu => h8 (.inl hu)⟩, ⟨kp.os, kp.tape, kp.output, kp.size, fun b hb => kp.block b (.inl hb)⟩⟩

end Go.Ab
/- A box of the frame's own that turns no more. -/
namespace Go.Ab

theorem StLe.layOwn {N : Nat} {sl : Slots} {h : Heap} (t : Nat) {cs : List D} (hl : look sl t = some (.own cs)) (hn : (sl.all fun x => !isLp x.2 t) = true) : StLe N ⟨sl, h⟩ ⟨setSl sl t (.ep cs), h⟩ := by
  intro g β U a w r
  obtain ⟨⟨T, vals, e1, e1'⟩, e2, e3, e4, e5⟩ := r.own t cs hl
  have e1' : Rs g cs vals.toList := e1'
  have i := r.inv
  let g' : G := { g with σ := fun x => if x.block = β t ∧ x.spot = none then vals[x.off]? else g.σ x }
  have le : G.le g g' := by
    refine ⟨fun x v e => ?_, fun _ _ e => e, fun _ k e => ⟨k, e, rfl, Nat.le_refl _, fun _ => rfl⟩⟩
    show (if _ then _ else _) = _
    rw [if_neg (fun hh => e3 x v e hh.1)]; exact e
  have σold : ∀ {x : Addr} {v : Value}, g'.σ x = some v → (x.block = β t ∧ x.spot = none ∧ vals[x.off]? = some v) ∨ g.σ x = some v := by
    intro x v e
    have e' : (if x.block = β t ∧ x.spot = none then vals[x.off]? else g.σ x) = some v := e
    split at e'
    · rename_i hc; exact .inl ⟨hc.1, hc.2, e'⟩
    · exact .inr e'
  have i' : Inv g' U h w := by
    refine ⟨fun x v e => ?_, i.ub, i.muLt, fun l row e => ?_, i.boxInj, fun t' m e => ?_, i.tokBox, i.tokInj, i.frL, i.frT, i.frV⟩
    · rcases σold e with ⟨h1, h2, h3⟩ | h1
      · exact ⟨by simp only [World.cell?, h1, e1, h2]; simpa using h3, h2⟩
      · exact i.sub x v h1
    · obtain ⟨b, f1, f2, f3, f4⟩ := i.box l row e
      refine ⟨b, f1, f2.mono le rfl, f3, fun x v hh => ?_⟩
      rcases σold hh with ⟨h1, _⟩ | h1
      · intro h2
        exact e4 l (by rw [e]; simp) (by rw [f1, ← h2, h1])
      · exact f4 x v h1
    · obtain ⟨k, f1, f2, f3⟩ := i.tok t' m e
      refine ⟨k, f1, f2, fun ha => (f3 ha).mono le fun b hb _ => ⟨rfl, fun j hj => ?_⟩⟩
      show (if _ then _ else _) = _
      rw [if_neg (fun hh => e5 t' m k e f1 ha (by rw [hb, ← hh.1]))]; exact hj
  have hR : R g' (.ep cs) (a.tmps.getD t undef) := by
    have h1 := r.slot t _ hl
    simp only [RS] at h1
    rw [h1]
    simp only [R]
    refine ⟨⟨β t, 0, none⟩, vals.toList, rfl, rfl, Rs.mono le _ _ e1', fun j hj => ?_⟩
    show (if _ then _ else _) = _
    simp
  have noLp : ∀ s d, look sl s = some d → isLp d t = false := fun s d hs => by
    have := List.all_eq_true.1 hn _ (look_mem hs)
    simpa using this
  refine ⟨g', β, ⟨r.defers, r.size, by rw [setSl_keys]; exact r.keys, fun s e hs => ?_, fun s e u hs hlive hb => ?_, fun s c hs => ?_, fun s s' c c' hs hs' => ?_, i'⟩, ⟨le, fun x v hh => ?_⟩⟩
  · rcases look_setSl _ _ _ _ _ hs with ⟨rfl, rfl, _⟩ | ⟨_, h2⟩
    · exact RS.ofRS0 (RS0.ofR hR) rfl
    · exact (r.slot s e h2).mono le
  · rcases look_setSl _ _ _ _ _ hs with ⟨rfl, rfl, _⟩ | ⟨_, h2⟩
    · cases hb
    · obtain ⟨c, hc⟩ := r.base s e u h2 hlive hb
      have hne : u ≠ t := fun hh => by
        subst hh
        have := noLp s e h2
        rw [isLp_base hb] at this; cases this
      exact ⟨c, look_setSl_own hne hc⟩
  · rcases look_setSl _ _ _ _ _ hs with ⟨rfl, h2, _⟩ | ⟨hne, h2⟩
    · cases h2
    · obtain ⟨f1, f2, f3, f4, f5⟩ := r.own s c h2
      refine ⟨f1.mono le rfl, f2, fun x v hh hb => ?_, f4, f5⟩
      rcases σold hh with ⟨h1, _⟩ | h1
      · exact hne (r.ownInj s t _ _ h2 hl (by rw [← hb, h1]))
      · exact f3 x v h1 hb
  · rcases look_setSl _ _ _ _ _ hs with ⟨rfl, h2, _⟩ | ⟨_, h2⟩
    · cases h2
    · rcases look_setSl _ _ _ _ _ hs' with ⟨rfl, h3, _⟩ | ⟨_, h3⟩
      · cases h3
      · exact r.ownInj s s' c c' h2 h3
  · rcases σold hh with ⟨h1, _⟩ | h1
    · exact .inr (by rw [h1]; exact e2)
    · exact .inl h1

theorem Rs.nz' {g : G} {n sz : Nat} {get : Nat → D} {bs : List D} : ∀ {as : List D} {vs : List Value}, Rs g (as ++ .list n sz get .none :: bs) vs → ∃ b, (b = true → n = 0) ∧ Rs g (as ++ .list n sz get (.nz b) :: bs) vs
  | [], vs, hr => by
    simp only [List.nil_append, Rs] at hr ⊢
    obtain ⟨v, r, rfl, h1, h2⟩ := hr
    simp only [R] at h1
    obtain ⟨a1, a, cap, a2, a3, _, a5⟩ := h1
    refine ⟨a.isNone, fun hb => ?_, v, r, rfl, ?_, h2⟩
    · rcases Nat.eq_zero_or_pos n with h0 | h0
      · exact h0
      · obtain ⟨p, u, hp, _⟩ := a5 0 h0
        rw [hp] at hb; cases hb
    · simp only [R]
      exact ⟨a1, a, cap, a2, a3, rfl, a5⟩
  | c :: cs, vs, hr => by
    simp only [List.cons_append, Rs] at hr ⊢
    obtain ⟨v, r, rfl, h1, h2⟩ := hr
    obtain ⟨b, h0, hb⟩ := Rs.nz' h2
    exact ⟨b, h0, v, r, rfl, h1, hb⟩
/-- A slice that is nil or not. -/
theorem Pure.nz1 {P : Program} {f : Nat} {n sz : Nat} {get : Nat → D} {bs : List D} {v : D} (h : ∀ b, (b = true → n = 0) → Pure P f (.list n sz get (.nz b) :: bs) v) : Pure P f (.list n sz get .none :: bs) v :=
  ⟨(h false (fun h => by cases h)).ok, Datas.nz (as := []) (h false (fun h => by cases h)).da, (h false (fun h => by cases h)).dv, fun g w vs sub hs => by obtain ⟨b, h0, hb⟩ := Rs.nz' (as := []) hs; exact (h b h0).calls g w vs sub hb⟩
theorem Does.nz1 {P : Program} {f : Nat} {n sz : Nat} {get : Nat → D} {bs : List D} {v : D} {h h' : Heap} (k : ∀ b, (b = true → n = 0) → Does P f (.list n sz get (.nz b) :: bs) h v h') : Does P f (.list n sz get .none :: bs) h v h' := fun K hk =>
  ⟨(k false (fun h => by cases h) K hk).ok, fun g U w vs i hs => by obtain ⟨b, h0, hb⟩ := Rs.nz' (as := []) hs; exact (k b h0 K hk).calls g U w vs i hb⟩

/-- An empty slice becomes an array of the frame's own. -/
theorem RetLe.idle {h : Heap} {z : Nat} {q : Nat → D} (c : Option (Nat → D)) (sz : Nat) (f : Nat → D) : RetLe (.list 0 z q .full) h (dIdle h c sz f) (hIdle h c) := fun g U w x hr i => by
  have r : Rel 0 g (fun _ => 0) U noY ⟨[], h⟩ { tmps := #[], defers := [] } w := ⟨rfl, rfl, List.nodup_nil, fun _ _ h => (by cases h), fun _ _ _ h => (by cases h), fun _ _ h => (by cases h), fun _ _ _ _ h => (by cases h), i⟩
  obtain ⟨g', r1, gr, _, hR⟩ := r.idle x hr sz f c
  exact ⟨g', hR, r1.inv, gr⟩

theorem catG_nil (f g : Nat → D) : catG 0 f g = g := by
  funext i
  have : Nat.blt i 0 = false := by rw [← Bool.not_eq_true, Nat.blt_eq]; omega
  simp [catG, this]
theorem dropG_nil (f : Nat → D) : dropG f 0 = f := by
  funext i; simp [dropG]

/-- One array of the frame's own, its content typed. -/
def hVec {α : Type} [Inhabited α] (es : List α) (enc : α → D) : Heap := ⟨fun _ => none, 0, upd (fun _ => none) 0 (some es.length), 1, upd (fun _ => none) 0 (some (cv es enc))⟩

theorem Pure.lay {P : Program} {f : Nat} {as args : List D} {v : D} {h : Heap} {t n : Nat} {q : Nat → D} (p : Pure P f as v) (hv : h.vw t = some q) (hn : h.hw t = some n) (ho : frzOks t n args) (hw : Wks (frzDs t q args) as) : Does P f args h v (hFrz h t) :=
  Does.of_calls p.ok fun g U w vs i hs => by
    obtain ⟨g', h1, h2, h3, _⟩ := i.freeze hv hn
    have hs' : Rs g' as vs := hw _ _ (Rs.frz h2.le h3 args vs ho hs)
    refine Calls.mono (p.calls g' w vs h1.sub hs') fun e w' ⟨x, σ', e1, e2, e3, e4, e5, e6⟩ => ?_
    have ex : Ext g' w ⟨σ', g'.μ, g'.τ⟩ w' := ⟨⟨e3, fun _ _ h => h, fun _ k h => ⟨k, h, rfl, Nat.le_refl _, fun _ => rfl⟩⟩, rfl, rfl, e5, e4, e6⟩
    exact ⟨x, _, e1, e2, h1.ext ex, h2.trans (ex.grow h1.ub), ex.kept h1.ub⟩

end Go.Ab
/- Lists, element by element weaker. -/
namespace Go.Ab

theorem Wk.listW {n n' sz sz' : Nat} {f f' : Nat → D} {own own' : Own} (hn : n = n') (hs : sz = sz' ∨ n = 0) (hf : ∀ i, i < n → Wk (f i) (f' i) ∧ (ones (f i) = true → ones (f' i) = true)) (ho : own' = .none ∨ own' = own) : Wk (.list n sz f own) (.list n' sz' f' own') := by
  subst hn
  intro g v hr
  simp only [R] at hr ⊢
  obtain ⟨h1, a, cap, h2, h3, h4, h5⟩ := hr
  refine ⟨h1, a, cap, h2, h3, ?_, fun i hi => ?_⟩
  · rcases ho with rfl | rfl
    · trivial
    · exact h4
  · obtain ⟨p, u, e1, e2, e3, e4, e5⟩ := h5 i hi
    have hss : sz = sz' := by rcases hs with h | h; exact h; omega
    subst hss
    exact ⟨p, u, e1, e2, (hf i hi).1 _ _ e3, ⟨e4.1, (hf i hi).2 e4.2⟩, e5⟩

theorem Wk.snocW {α : Type} [Inhabited α] {a : List α} {x : α} {sz t : Nat} {enc : α → D} {d : D} (h : Wk d (enc x)) (h1 : ones (enc x) = true) : Wk (.list (a.length + 1) sz (catG a.length (fun i => enc (a.getD i default)) (litG [d])) (.tok t sz)) (LT (a ++ [x]) sz enc t) := by
  refine Wk.listW (by simp) (.inl rfl) (fun i hi => ?_) (.inr rfl)
  unfold catG
  rcases Nat.lt_or_ge i a.length with hl | hl
  · rw [blt_tt.2 hl]
    simp only [cond_true, List.getD_eq_getElem?_getD, List.getElem?_append_left hl]
    exact ⟨Wk.refl _, fun h => h⟩
  · have : i = a.length := by omega
    subst this
    rw [blt_ff.2 (Nat.le_refl _)]
    simp only [cond_false, Nat.sub_self, litG, List.getD_cons_zero]
    simp only [List.getD_eq_getElem?_getD, List.getElem?_append_right (Nat.le_refl _), Nat.sub_self, List.getElem?_cons_zero, Option.getD_some]
    exact ⟨h, fun _ => h1⟩

/-- A heap with one append right 0 of n elements, N names in use. -/
def hN (n N : Nat) : Heap := ⟨fun _ => none, 0, upd (fun _ => none) 0 (some n), N, fun _ => none⟩
def hN2 (n N m : Nat) : Heap := ⟨fun _ => none, 0, upd (upd (fun _ => none) 0 (some n)) N (some m), N + 1, fun _ => none⟩

/-- The last append right is not used any more. -/
theorem hN_drop {f : Nat → Option Row} {q : Nat → Option Nat} {vw : Nat → Option (Nat → D)} {nl N n m k : Nat} (h0 : 0 < N) (hq : ∀ t, q t = none) : HeapLe ⟨f, nl, upd (upd (upd q 0 (some n)) N (some m)) 0 (some k), N + 1, vw⟩ ⟨f, nl, upd q 0 (some k), N + 1, vw⟩ := by
  refine ⟨fun l row' e => (HeapLe.refl _).box l row' e, Nat.le_refl _, fun t n' e => ?_, Nat.le_refl _, fun _ _ _ => VwLe.refl _ _, fun _ h => h⟩
  by_cases ht : t = 0
  · subst ht
    have e' : upd q 0 (some k) 0 = some n' := e
    rw [upd_same] at e'
    show upd (upd (upd q 0 (some n)) N (some m)) 0 (some k) 0 = some n'
    rw [upd_same]; exact e'
  · have e' : upd q 0 (some k) t = some n' := e
    rw [upd_other _ _ ht, hq t] at e'; cases e'

theorem StLe.cast {n : Nat} {a b b' : St} (h : StLe n a b) (e : b = b') : StLe n a b' := e ▸ h

end Go.Ab
