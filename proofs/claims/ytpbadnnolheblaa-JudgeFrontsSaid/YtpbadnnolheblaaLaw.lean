/-
  The row's step for every law of this seat: if the Go text, called with arguments that can be read, returns true and leaves what was there as it was, the given statement holds.
-/
import Derived.Test.YtpbadnnolheblaaRows
import Derived.Test.YtpbadnnolheblaaKit
import Derived.ProofKit
import Derived.OpenShut
import Derived.Deep.Slices
import Derived.SizedLaws
import Derived.ChangeArms
import Derived.Carry
namespace Go.Proofs.Ytpbadnnolheblaa
open Go.ChangeShapes Go.WideShapes Go.ChangeAt Go.RowKit

section rd
variable {H : Type} {enc : TypeId × Value → H} {P : Program} {W : World}

/-- These cells can be read as a value of type t. -/
def Rd (enc : TypeId × Value → H) (P : Program) (W : World) (t : TypeId) (cs : List Value) : Prop := ∃ fuel x, DataW.trod enc P W 0 (fun _ => true) true fuel t cs = some x

theorem Rd.int {t : TypeId} {cs : List Value} {k : IntKind} (ht : P.underlying t = some (.int k)) (h : Rd enc P W t cs) : ∃ n, cs = [.int k n] ∧ (Lit.int k n).wf = true := by
  obtain ⟨fuel, x, h⟩ := h
  obtain ⟨n, h1, _, h2⟩ := DataW.trod_int ht h
  exact ⟨n, h1, h2⟩
theorem Rd.bool {t : TypeId} {cs : List Value} (ht : P.underlying t = some .bool) (h : Rd enc P W t cs) : ∃ b, cs = [.bool b] := by
  obtain ⟨fuel, x, h⟩ := h
  obtain ⟨n, h1, _⟩ := DataW.trod_bool ht h
  exact ⟨n, h1⟩
theorem Rd.slice {t e : TypeId} {cs : List Value} (ht : P.underlying t = some (.slice e)) (h : Rd enc P W t cs) :
    cs = [.slice none 0 0] ∨ ∃ (a : Addr) (len cap : Nat), cs = [.slice (some a) len cap] ∧ len ≤ cap ∧ cap ≤ maxLen ∧
      ∀ i, i < len → ∃ cs', W.cells? 0 (a.add (i * P.cellsOf e)) (P.cellsOf e) = some cs' ∧ Rd enc P W e cs' := by
  obtain ⟨fuel, x, h⟩ := h
  rcases Go.Deep.open_slice ht h with h | ⟨a, len, cap, m, n, D, Pl, h1, _, h2, h3, h4, _, h6⟩
  · exact .inl h.1
  · refine .inr ⟨a, len, cap, h1, h2, h3, fun i hi => ?_⟩
    simp only [if_true] at h4
    obtain ⟨cs', h7, h8⟩ := h6 i (by omega)
    exact ⟨cs', h7, n, _, h8⟩
theorem Rd.struct {t : TypeId} {cs : List Value} {fs : Array Field} (ht : P.underlying t = some (.struct fs)) (h : Rd enc P W t cs) :
    cs.length = P.cellsOf t ∧ ∀ (i : Nat) (f : Field), fs[i]? = some f → Rd enc P W f.type ((cs.drop f.offset).take (P.cellsOf f.type)) := by
  obtain ⟨fuel, x, h⟩ := h
  obtain ⟨xs, n, _, _, h1, h2, h3⟩ := DataW.trod_struct ht h
  refine ⟨h1, fun i f hf => ?_⟩
  have hi : i < xs.length := by
    rw [h2]
    exact (Array.getElem?_eq_some_iff.1 hf).1
  exact ⟨n, xs[i], by rw [h3 i f hf]; simp [hi]⟩

theorem arg_int {r : Reach} {b0 : Nat} {t : TypeId} {k : IntKind} {v : Value} (ht : P.underlying t = some (.int k)) (h : Value.okWide P W r b0 t v ∧ Rd enc P W t v.cells.toList) : ∃ n, v = .int k n ∧ (Lit.int k n).wf = true := by
  obtain ⟨n, rfl⟩ := okWide_int ht h.1
  obtain ⟨m, h1, h2⟩ := h.2.int ht
  simp [Value.cells] at h1
  subst h1
  exact ⟨n, rfl, h2⟩
theorem arg_slice {r : Reach} {b0 : Nat} {t e : TypeId} {v : Value} (ht : P.underlying t = some (.slice e)) (h : Value.okWide P W r b0 t v ∧ Rd enc P W t v.cells.toList) :
    v = .slice none 0 0 ∨ ∃ (a : Addr) (len cap : Nat), v = .slice (some a) len cap ∧ len ≤ cap ∧ cap ≤ maxLen ∧
      ∀ i, i < len → ∃ cs', W.cells? 0 (a.add (i * P.cellsOf e)) (P.cellsOf e) = some cs' ∧ Rd enc P W e cs' := by
  obtain ⟨a, n, c, rfl⟩ := okWide_slice ht h.1
  rcases h.2.slice ht with h | ⟨a', len, cap, h1, h2⟩
  · left; simpa [Value.cells] using h
  · right; simp [Value.cells] at h1; obtain ⟨rfl, rfl, rfl⟩ := h1; exact ⟨a', n, c, rfl, h2⟩
theorem arg_struct {r : Reach} {b0 : Nat} {t : TypeId} {v : Value} {fs : Array Field} (ht : P.underlying t = some (.struct fs)) (h : Value.okWide P W r b0 t v ∧ Rd enc P W t v.cells.toList) :
    ∃ cs, v = .agg cs ∧ cs.size = P.cellsOf t ∧ ∀ (i : Nat) (f : Field), fs[i]? = some f → Rd enc P W f.type ((cs.toList.drop f.offset).take (P.cellsOf f.type)) := by
  obtain ⟨cs, rfl, hs⟩ := okWide_struct ht h.1
  exact ⟨cs, rfl, hs, (h.2.struct ht).2⟩

/-- Cells that stand one behind the other. -/
theorem cells_at {a : Addr} {n : Nat} {cs : List Value} (h : W.cells? 0 a n = some cs) : cs.length = n ∧ ∀ j, j < n → W.cell? (a.add j) = cs[j]? := by
  simp only [World.cells?, Nat.zero_le, if_true] at h
  have key : ∀ (l : List Nat) (cs : List Value), l.mapM (fun i => W.cell? (a.add i)) = some cs → cs.length = l.length ∧ ∀ j (hj : j < l.length), W.cell? (a.add l[j]) = cs[j]? := by
    intro l
    induction l with
    | nil => intro cs h; simp at h; subst h; exact ⟨rfl, fun j hj => by simp at hj⟩
    | cons x l ih =>
      intro cs h
      simp only [List.mapM_cons] at h
      cases hx : W.cell? (a.add x) with
      | none => simp [hx] at h
      | some v =>
        cases hl : l.mapM (fun i => W.cell? (a.add i)) with
        | none => simp [hx, hl] at h
        | some ds =>
          simp [hx, hl] at h
          subst h
          obtain ⟨h1, h2⟩ := ih ds hl
          refine ⟨by simp [h1], fun j hj => ?_⟩
          cases j with
          | zero => simpa using hx
          | succ j => simpa using h2 j (by simpa using hj)
  obtain ⟨h1, h2⟩ := key _ _ h
  refine ⟨by simpa using h1, fun j hj => ?_⟩
  have := h2 j (by simpa using hj)
  simpa using this

theorem cell_lt {a : Addr} {v : Value} (h : W.cell? a = some v) : a.spot = none ∧ a.block < W.heap.size := by
  unfold World.cell? at h
  split at h
  · rename_i c e f hb
    constructor
    · cases hs : a.spot with
      | none => rfl
      | some s => simp [hs] at h
    · exact lt_of_some hb
  · cases h
/-- The address of a row that holds an element. -/
theorem row_addr {a : Addr} {c len : Nat} {Q : Nat → List Value → Prop} (he : ∀ i, i < len → ∃ cs', W.cells? 0 (a.add (i * c)) c = some cs' ∧ Q i cs') (hl : 0 < len) (hc : 0 < c) : ∃ b off, a = ⟨b, off, none⟩ ∧ b < W.heap.size := by
  obtain ⟨cs, h1, _⟩ := he 0 hl
  obtain ⟨h2, h3⟩ := cells_at h1
  have h4 := h3 0 hc
  have e : (a.add (0 * c)).add 0 = a := by simp [Addr.add]
  rw [e, List.getElem?_eq_getElem (by omega)] at h4
  obtain ⟨h5, h6⟩ := cell_lt h4
  obtain ⟨b, off, sp⟩ := a
  dsimp only at h5 h6
  subst h5
  exact ⟨b, off, rfl, h6⟩
/-- The cells of element i. -/
theorem row_cells {b off c i : Nat} {cs : List Value} (h : W.cells? 0 ((⟨b, off, none⟩ : Addr).add (i * c)) c = some cs) : cs.length = c ∧ ∀ j, j < c → W.cell? ⟨b, off + i * c + j, none⟩ = cs[j]? := by
  obtain ⟨h1, h2⟩ := cells_at h
  refine ⟨h1, fun j hj => ?_⟩
  have := h2 j hj
  simpa only [Addr.add_lit] using this

/-- One list for all places. -/
theorem list_of {α : Type} (d : α) (p : Nat → α → Prop) : ∀ n, (∀ i, i < n → ∃ x, p i x) → ∃ l : List α, l.length = n ∧ ∀ i, i < n → p i (l.getD i d)
  | 0, _ => ⟨[], rfl, fun _ h => absurd h (Nat.not_lt_zero _)⟩
  | n + 1, h => by
    obtain ⟨l, h1, h2⟩ := list_of d p n (fun i hi => h i (by omega))
    obtain ⟨x, hx⟩ := h n (by omega)
    refine ⟨l ++ [x], by simp [h1], fun i hi => ?_⟩
    by_cases e : i = n
    · subst e; simpa [List.getD, h1, List.getElem?_append] using hx
    · have := h2 i (by omega)
      simpa [List.getD, List.getElem?_append, show i < l.length by omega] using this

theorem trodAll_at {ts : List TypeId} {vs : List Value} {ds : List (DataW H)} {ps : List MemPlace} (h : DataW.TrodAll enc P W 0 (fun _ => true) true ts vs ds ps) :
    ds.length = ts.length ∧ vs.length = ts.length ∧ ∀ (j : Nat) t v, ts[j]? = some t → vs[j]? = some v → Rd enc P W t v.cells.toList := by
  induction ts generalizing vs ds ps with
  | nil =>
    cases vs <;> cases ds <;> simp_all [DataW.TrodAll]
  | cons t ts ih =>
    obtain ⟨v, vs', d, ds', p, q, rfl, rfl, rfl, ⟨fuel, h1⟩, h2⟩ := trodAll_cons h
    obtain ⟨a1, a2, a3⟩ := ih h2
    refine ⟨by simp [a1], by simp [a2], fun j t' v' ht hv => ?_⟩
    cases j with
    | zero => simp at ht hv; subst ht; subst hv; exact ⟨fuel, _, h1⟩
    | succ j => exact a3 j t' v' (by simpa using ht) (by simpa using hv)

theorem trodAll_stays (hl : laidOutB P = true) {ts : List TypeId} (hr : ∀ t ∈ ts, P.readableRec t = true ∧ t < P.types.size) {W' : World} {vs : List Value} {ds : List (DataW H)} {ps : List MemPlace}
    (h : DataW.TrodAll enc P W 0 (fun _ => true) true ts vs ds ps) (hb : Below W.heap.size W W') (hlt : ∀ x ∈ ps, x.block < W.heap.size) :
    DataW.TrodAll enc P W' 0 (fun b => decide (b < W.heap.size)) true ts vs ds ps := by
  induction ts generalizing vs ds ps with
  | nil => cases vs <;> cases ds <;> simp_all [DataW.TrodAll]
  | cons t ts ih =>
    obtain ⟨v, vs', d, ds', p, q, rfl, rfl, rfl, h1, h2⟩ := trodAll_cons h
    have ht := hr t (by simp)
    exact trodAll_cons_mk (Below.trod hl ht.1 ht.2 h1 hb (fun x hx => hlt x (by simp [hx]))) (ih (fun t ht => hr t (by simp [ht])) h2 (fun x hx => hlt x (by simp [hx])))
end rd

/-- THE ROW's STEP. -/
theorem law_lifted {C : Checked} {f : FuncId} {fn : Func} {s : ChangeSpec} {tb : TypeId} (own : ownKnob C.prog.godebug = none) (noInit : C.prog.inits.idxOf? f = none) (hfn : C.prog.funcs[f]? = some fn)
    (hvars : s.vars = []) (hs : ∀ (H : Type) (ds : List (DataW H)), ds.length = fn.params.toList.length → s.fn H ds = { results := [.lit (.bool true)], args := ds })
    (hres : fn.resultTypes = #[tb]) (hb : C.prog.underlying tb = some .bool) (hl : laidOutB C.prog = true) (hr : ∀ t ∈ fn.params.toList, C.prog.readableRec t = true ∧ t < C.prog.types.size)
    (os : Os) (started : os.Started) (H : Type) (enc : TypeId × Value → H)
    (witness : ∃ (w : World) (tape : Tape) (i : Input), w.os = os ∧ (w.forCall tape i).Shaped C.prog ∧ i.vars = [] ∧ Input.okWide C.prog (w.forCall tape i) .any w.heap.size f i ∧
      s.pre6 enc C.prog fn [] false (w.forCall tape i).memory i.args ∧ Assume.holds {} C.prog (lone (Frame.enter C.prog f i.args .normal) [] (w.forCall tape i)))
    (walk : ∀ (W : World) (base : Nat) (args : List Value), args.length = fn.params.toList.length → (∀ (j : Nat) t v, fn.params.toList[j]? = some t → args[j]? = some v → Value.okWide C.prog W .any base t v ∧ Rd enc C.prog W t v.cells.toList) →
      Calls C.prog f args.toArray W fun e W' => e = .returned (.bool true) ∧ Below W.heap.size W W') :
    ReturnsInHanded {} C os f .any (s.pre6 enc C.prog fn [] false) (s.post enc C.prog fn false true false false) := by
  refine returnsInHanded_of_change (C := C) own started noInit hfn witness ?_
  intro W base args ds gs before hval hW hcnd _
  have hW' := hW
  have hlt := hW.lt
  obtain ⟨p, q, hA, hV, rfl, hfz, hnd⟩ := hW
  rw [hvars] at hV
  obtain ⟨rfl, rfl⟩ := trodVars_none hV
  obtain ⟨a1, a2, a3⟩ := trodAll_at hA
  have hw := walk W base args.toList a2 (fun j t v ht hv => ⟨hval j t v (by simpa using ht) (by simpa using hv), a3 j t v ht hv⟩)
  rw [Array.toArray_toList] at hw
  refine hw.mono fun e W' ⟨he, bel⟩ => ?_
  subst he
  have e1 : s.fn H (ds ++ []) = { results := [.lit (.bool true)], args := ds } := by rw [List.append_nil]; exact hs H ds a1
  refine ⟨_, rfl, ds, [], p ++ [], [], p, [], hW', ?_, ?_, ?_, ?_, fun h => by cases h⟩
  · rw [e1, hres]; exact trodAll_mk1 (shut_bool hb _)
  · rw [e1]; exact trodAll_stays hl hr hA bel (fun x hx => hlt x (by simp [hx]))
  · rw [e1, hvars]; rfl
  · exact bel.frame _
end Go.Proofs.Ytpbadnnolheblaa
