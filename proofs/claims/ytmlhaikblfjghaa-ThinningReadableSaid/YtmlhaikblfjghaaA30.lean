/- Reading the arguments of a claim: structs. -/
import Derived.Test.YtmlhaikblfjghaaA29
namespace Go.Ab

theorem Datas.append {a b : List D} (h : Datas a) (k : Datas b) : Datas (a ++ b) := by
  induction a with
  | nil => exact k
  | cons d r ih => exact ⟨h.1, ih h.2⟩

theorem Data.cells {d : D} (h : Ab.Data d) : Datas (cellsD d) := by
  cases d <;> first | exact h | exact ⟨h, trivial⟩

/-- The fields from an offset on, to the struct's end. -/
structure ReadsF (P : Program) (total : Nat) (fs : List Field) (off : Nat) {α : Type} (encF : α → List D) (ok : α → Prop) : Prop where
  size : ∀ a, off + (encF a).length = total
  ones : ∀ a, (encF a).all oneD = true
  data : ∀ a, Datas (encF a)
  it : ∀ {H : Type} {en : TypeId × Value → H} {w : World} {base : Nat} {spare : Nat → Bool} {held : Bool} {fuel : Nat} {cs : List Value}, cs.length = total →
    (∀ f ∈ fs, ∃ x, DataW.trod en P w base spare held fuel f.type ((cs.drop f.offset).take (P.cellsOf f.type)) = some x) → ∃ a : α, ok a ∧ Rs (gw w) (encF a) (cs.drop off)

section
variable {P : Program} {t : TypeId}

theorem ReadsF.nil {total : Nat} : ReadsF P total [] total (fun _ : Unit => []) (fun _ => True) :=
  ⟨fun _ => rfl, fun _ => rfl, fun _ => trivial, fun hl _ => ⟨(), trivial, by rw [List.drop_eq_nil_of_le (by omega)]; rfl⟩⟩

theorem ReadsF.cons {total : Nat} {f : Field} {fs : List Field} {off : Nat} {α β : Type} {enc : α → D} {ok : α → Prop} {encF : β → List D} {okF : β → Prop} (h : Reads P f.type enc ok) (k : ReadsF P total fs (off + P.cellsOf f.type) encF okF) (ho : f.offset = off) :
    ReadsF P total (f :: fs) off (fun x : α × β => cellsD (enc x.1) ++ encF x.2) (fun x => ok x.1 ∧ okF x.2) := by
  refine ⟨fun x => ?_, fun x => ?_, fun x => (Data.cells (h.data x.1)).append (k.data x.2), fun {H en w base spare held fuel cs} hl hx => ?_⟩
  · have h1 := h.size x.1
    have h2 := k.size x.2
    simp only [List.length_append]; omega
  · have h1 := h.ones x.1
    simp only [Ab.ones] at h1
    rw [List.all_append, h1, k.ones x.2]; rfl
  · obtain ⟨y, hy⟩ := hx f (List.mem_cons_self ..)
    obtain ⟨a, ha, hr⟩ := h.it hy
    obtain ⟨b, hb, hs⟩ := k.it hl fun f' hf => hx f' (List.mem_cons_of_mem _ hf)
    refine ⟨(a, b), ⟨ha, hb⟩, ?_⟩
    have : cs.drop off = (cs.drop f.offset).take (P.cellsOf f.type) ++ cs.drop (off + P.cellsOf f.type) := by
      rw [ho, ← List.drop_drop, List.take_append_drop]
    rw [this]
    exact hr.append hs

/-- A struct. -/
theorem Reads.struct {fs : Array Field} {α : Type} {encF : α → List D} {ok : α → Prop} (ht : P.underlying t = some (.struct fs)) (h : ReadsF P (P.cellsOf t) fs.toList 0 encF ok) : Reads P t (fun a => .agg (encF a)) ok := by
  refine ⟨fun a => by have := h.size a; simpa [cellsD] using this, fun a => h.ones a, fun _ => rfl, fun a => h.data a, fun {H en w base spare held fuel cs x} hx => ?_⟩
  obtain ⟨xs, n, _, _, hl, hxl, hf⟩ := DataW.trod_struct ht hx
  obtain ⟨a, ha, hs⟩ := h.it (fuel := n) hl fun f hm => by
    obtain ⟨i, hi, rfl⟩ := List.getElem_of_mem hm
    have hi' : i < fs.size := by simpa using hi
    have h1 := hf i fs[i] (Array.getElem?_eq_getElem hi')
    rw [List.getElem?_eq_getElem (by omega)] at h1
    exact ⟨_, by simpa using h1⟩
  exact ⟨a, ha, by simpa [cellsD] using hs⟩

/-- The same cells by another Lean type. -/
theorem Reads.map {α β : Type} {enc : α → D} {ok : α → Prop} {enc' : β → D} {ok' : β → Prop} (h : Reads P t enc ok) (f : α → β) (he : ∀ a, enc' (f a) = enc a) (hs : ∀ b, ∃ a, b = f a) (ho : ∀ a, ok a → ok' (f a)) : Reads P t enc' ok' := by
  refine ⟨fun b => ?_, fun b => ?_, fun b => ?_, fun b => ?_, fun hx => ?_⟩
  · obtain ⟨a, rfl⟩ := hs b; rw [he]; exact h.size a
  · obtain ⟨a, rfl⟩ := hs b; rw [he]; exact h.ones a
  · obtain ⟨a, rfl⟩ := hs b; rw [he]; exact h.isD a
  · obtain ⟨a, rfl⟩ := hs b; rw [he]; exact h.data a
  · obtain ⟨a, h1, h2⟩ := h.it hx
    exact ⟨f a, ho a h1, by rw [he]; exact h2⟩

/-- An argument that is a struct. -/
theorem Reads.argStruct {α : Type} {encF : α → List D} {ok : α → Prop} (h : Reads P t (fun a => .agg (encF a)) ok) {fs : Array Field} (ht : P.underlying t = some (.struct fs)) {r : Reach} {H : Type} {en : TypeId × Value → H} {w : World} {base b0 : Nat} {spare : Nat → Bool} {held : Bool} {v : Value} {d : DataW H} {p : List MemPlace}
    (hv : Value.okWide P w r b0 t v) (hd : DataW.Trod en P w base spare held t v d p) : ∃ a : α, ok a ∧ R (gw w) (.agg (encF a)) v := by
  obtain ⟨n, hn⟩ := hd
  obtain ⟨a, ha, hr⟩ := h.it hn
  obtain ⟨cs, rfl, _⟩ := WideShapes.okWide_struct ht hv
  exact ⟨a, ha, by simp only [R]; exact ⟨cs.toList, by simp, by simpa [cellsD, Value.cells] using hr⟩⟩

/-- An argument of one cell. -/
theorem Reads.argOne {α : Type} {enc : α → D} {ok : α → Prop} (h : Reads P t enc ok) (h1 : ∀ a, cellsD (enc a) = [enc a]) {H : Type} {en : TypeId × Value → H} {w : World} {base : Nat} {spare : Nat → Bool} {held : Bool} {v : Value} {d : DataW H} {p : List MemPlace}
    (hv : v.cells = #[v]) (hd : DataW.Trod en P w base spare held t v d p) : ∃ a : α, ok a ∧ R (gw w) (enc a) v := by
  obtain ⟨n, hn⟩ := hd
  obtain ⟨a, ha, hr⟩ := h.it hn
  rw [h1, hv] at hr
  obtain ⟨v', e, hr⟩ := Rs.one hr
  have : v = v' := by simpa using e
  subst this
  exact ⟨a, ha, hr⟩

end
end Go.Ab
