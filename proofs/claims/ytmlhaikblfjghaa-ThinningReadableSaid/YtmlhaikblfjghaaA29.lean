/- Reading the arguments of a claim: typed data. -/
import Derived.Test.YtmlhaikblfjghaaA28
import Derived.ChangeArms
import Derived.Deep.Slices
namespace Go.Ab

/-- The ghost memory of a world: each cell stays as it is. -/
def gw (w : World) : G := ⟨w.cell?, fun _ => none, fun _ => none⟩

theorem gw_sub (w : World) : ∀ a v, (gw w).σ a = some v → w.cell? a = some v ∧ a.spot = none := by
  intro a v h
  refine ⟨h, ?_⟩
  have h' : w.cell? a = some v := h
  unfold World.cell? at h'
  split at h'
  · cases hs : a.spot with
    | none => rfl
    | some s => rw [hs] at h'; simp at h'
  · cases h'

/-- What a claim reads at type t is data of this Lean type. -/
structure Reads (P : Program) (t : TypeId) {α : Type} (enc : α → D) (ok : α → Prop) : Prop where
  size : ∀ a, (cellsD (enc a)).length = P.cellsOf t
  ones : ∀ a, ones (enc a) = true
  isD : ∀ a, isD (enc a) = true
  data : ∀ a, Ab.Data (enc a)
  it : ∀ {H : Type} {en : TypeId × Value → H} {w : World} {base : Nat} {spare : Nat → Bool} {held : Bool} {fuel : Nat} {cs : List Value} {x : DataW H × List MemPlace},
    DataW.trod en P w base spare held fuel t cs = some x → ∃ a : α, ok a ∧ Rs (gw w) (cellsD (enc a)) cs

theorem Rs.value {g : G} {d : D} {cs : List Value} (hd : Ab.isD d = true) (hs : Rs g (cellsD d) cs) : ∃ u, R g d u ∧ u.cells.toList = cs := by
  cases d with
  | agg ds => exact ⟨.agg cs.toArray, by simp only [R]; exact ⟨cs, rfl, hs⟩, by simp [Value.cells]⟩
  | own ds => cases hd
  | lp s o => cases hd
  | may j w d => cases hd
  | junk => cases hd
  | _ =>
    obtain ⟨v, rfl, hv⟩ := hs.one
    refine ⟨v, hv, ?_⟩
    have h2 := hv.cells
    obtain ⟨v', e, _⟩ := Rs.one h2
    have h3 := hv
    simp only [R] at h3
    first
      | (subst h3; rfl)
      | (obtain ⟨rfl, _⟩ := h3; rfl)
      | (obtain ⟨_, _, _, rfl, _⟩ := h3; rfl)
      | (obtain ⟨_, _, rfl, _⟩ := h3; rfl)
      | (obtain ⟨_, _, rfl⟩ := h3; rfl)
      | (obtain ⟨_, _, _, _, rfl, _⟩ := h3; rfl)
      | (obtain ⟨_, rfl, _⟩ := h3; rfl)

section
variable {P : Program} {t : TypeId}

theorem Reads.int {k : IntKind} (ht : P.underlying t = some (.int k)) (hc : P.cellsOf t = 1) : Reads P t (fun n : Int => .int k n) (fun n => (Lit.int k n).wf = true) :=
  ⟨fun _ => hc.symm, fun _ => rfl, fun _ => rfl, fun _ => trivial, fun h => by
    obtain ⟨n, rfl, _, hw⟩ := DataW.trod_int ht h
    exact ⟨n, hw, by simp only [cellsD, Rs]; exact ⟨_, _, rfl, by simp only [R], rfl⟩⟩⟩

theorem Reads.bool (ht : P.underlying t = some .bool) (hc : P.cellsOf t = 1) : Reads P t (fun b : Bool => .bool b) (fun _ => True) :=
  ⟨fun _ => hc.symm, fun _ => rfl, fun _ => rfl, fun _ => trivial, fun h => by
    obtain ⟨b, rfl, _⟩ := DataW.trod_bool ht h
    exact ⟨b, trivial, by simp only [cellsD, Rs]; exact ⟨_, _, rfl, by simp only [R], rfl⟩⟩⟩

theorem Reads.str (ht : P.underlying t = some .string) (hc : P.cellsOf t = 1) : Reads P t (fun s : List UInt8 => .str s) (fun s => s.length ≤ strM) :=
  ⟨fun _ => hc.symm, fun _ => rfl, fun _ => rfl, fun _ => trivial, fun h => by
    obtain ⟨s, rfl, _, hs⟩ := DataW.trod_string ht h
    have hl : s.data.toList.length ≤ strM := by
      have : s.data.toList.length = s.size := by show s.data.toList.length = s.data.size; simp
      rw [this]; exact hs
    exact ⟨s.data.toList, hl, by simp only [cellsD, Rs]; exact ⟨_, _, rfl, by simp only [R]; exact ⟨by simp, hl⟩, rfl⟩⟩⟩

/-- A slice. -/
theorem Reads.slice {α : Type} [Inhabited α] {e : TypeId} {enc : α → D} {ok : α → Prop} (h : Reads P e enc ok) (ht : P.underlying t = some (.slice e)) (hc : P.cellsOf t = 1) (hp : 0 < P.cellsOf e) :
    Reads P t (fun es : List α => L es (P.cellsOf e) enc) (fun es => (∀ x ∈ es, ok x) ∧ es.length ≤ lenM) := by
  refine ⟨fun _ => hc.symm, fun _ => rfl, fun _ => rfl, fun es => L.data fun x => h.data x, fun {H en w base spare held fuel cs x} hx => ?_⟩
  rcases Go.Deep.open_slice ht hx with ⟨rfl, _⟩ | ⟨a, len, cap, m, n, Dd, Pl, rfl, hb, hl, hm, hmm, _, hel⟩
  · refine ⟨[], ⟨fun _ h => (by cases h), by simp [lenM]⟩, ?_⟩
    simp only [L, cellsD, Rs]
    refine ⟨_, _, rfl, ?_, rfl⟩
    simp only [R]
    exact ⟨by simp [lenM], none, 0, rfl, Nat.le_refl _, trivial, fun i hi => by cases hi⟩
  · have hle : len ≤ m := by rw [hmm]; split <;> omega
    have hx2 : ∀ i, ∃ q : α, i < len → ok q ∧ ∃ cs', w.cells? base (a.add (i * P.cellsOf e)) (P.cellsOf e) = some cs' ∧ Rs (gw w) (cellsD (enc q)) cs' := by
      intro i
      by_cases hi : i < len
      · obtain ⟨cs', h1, h2⟩ := hel i (by omega)
        obtain ⟨q, h3, h4⟩ := h.it h2
        exact ⟨q, fun _ => ⟨h3, cs', h1, h4⟩⟩
      · exact ⟨default, fun h => absurd h hi⟩
    let f : Nat → α := fun i => Classical.choose (hx2 i)
    have hf : ∀ i, i < len → ok (f i) ∧ ∃ cs', w.cells? base (a.add (i * P.cellsOf e)) (P.cellsOf e) = some cs' ∧ Rs (gw w) (cellsD (enc (f i))) cs' := fun i => Classical.choose_spec (hx2 i)
    have hlen : len ≤ lenM := by have : cap ≤ maxLen := hm; unfold maxLen at this; unfold lenM; omega
    refine ⟨(List.range len).map f, ⟨fun x hx => ?_, by simpa using hlen⟩, ?_⟩
    · obtain ⟨i, hi, rfl⟩ := List.mem_map.1 hx
      exact (hf i (by simpa using hi)).1
    · simp only [L, cellsD, Rs]
      refine ⟨_, _, rfl, ?_, rfl⟩
      simp only [R, List.length_map, List.length_range]
      refine ⟨hlen, some a, cap, rfl, hl, trivial, fun i hi => ?_⟩
      obtain ⟨_, cs', h1, h2⟩ := hf i hi
      obtain ⟨_, hcl, hcell⟩ := World.cells?_some h1
      have hget : ((List.range len).map f).getD i default = f i := by simp [List.getD, hi]
      rw [hget]
      obtain ⟨u, hu, huc⟩ := h2.value (h.isD _)
      have hspot : a.spot = none := by
        obtain ⟨_, cs0, h01, _⟩ := hf 0 (by omega)
        obtain ⟨_, hlc, hc0⟩ := World.cells?_some h01
        have h00 := hc0 0 hp
        rw [Nat.zero_mul] at h00
        have hadd : (a.add 0).add 0 = a := by simp [Addr.add]
        rw [hadd, List.getElem?_eq_getElem (by omega)] at h00
        exact (gw_sub w a _ h00).2
      have hus : u.cells.size = P.cellsOf e := by have : u.cells.toList.length = _ := congrArg List.length huc; simpa [hcl] using this
      refine ⟨a, u, rfl, hspot, hu, ⟨hus, h.ones _⟩, fun j hj => ?_⟩
      have := hcell j hj
      have hae : a = ⟨a.block, a.off, none⟩ := by cases a; simp_all
      rw [hae, add_none, add_none] at this
      show w.cell? _ = _
      rw [this, ← huc]; simp

end
end Go.Ab
