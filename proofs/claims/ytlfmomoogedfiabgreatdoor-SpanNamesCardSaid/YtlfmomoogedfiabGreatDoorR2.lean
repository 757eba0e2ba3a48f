/- PROVED: loading: what the abstract heap foretells, the model loads. Conditions: those in each theorem's own words (the abstract state stands for the world). By an AI agent. -/
import Derived.Test.YtlfmomoogedfiabGreatDoorR1
namespace Go.Ex

/-! ### Blocks against blocks -/
structure ER (E : Env) (a : AEnt) (e : MapEntry) : Prop where
  key : VR E a.key e.key
  val : VR E a.val e.val
  born : a.born = e.born
inductive ERs (E : Env) : List AEnt → List MapEntry → Prop where
  | nil : ERs E [] []
  | cons (a : AEnt) (e : MapEntry) (as : List AEnt) (es : List MapEntry) (h : ER E a e) (t : ERs E as es) : ERs E (a :: as) (e :: es)

/-- a row of cells: C, of an element type, marks beyond it -/
structure CR' (E : Env) (c : List AV) (l : Loc) (C : Array Value) (fz : Nat × Nat) : Prop where
  tot : C.size = l.tot
  fits : l.o + c.length ≤ C.size
  marks : fz.1 = fz.2 ∨ C.size ≤ fz.1
  cell : ∀ (j : Nat) (x : AV), c[j]? = some x → ∃ v, C[l.o + j]? = some v ∧ VR E x v

def OR (E : Env) (x : AObj) (l : Loc) (w : World) : Prop :=
  match x with
  | .cells c _ => ∃ C el fz, w.heap[l.B]? = some (.cells C el fz) ∧ CR' E c l C fz
  | .map es clock => l.o = 0 ∧ ∃ es', w.heap[l.B]? = some (.map es' clock) ∧ ERs E es es'.toList
  | .iter m since seen stepped => l.o = 0 ∧ ∃ m', w.heap[l.B]? = some (.mapIter m' since seen.toArray stepped) ∧
      match m with
      | none => m' = none
      | some b => ∃ k, E b = some k ∧ m' = some k.B
  | .dead => True

structure WR (K : Nat → Prop) (w0 : World) (E : Env) (s : St) (w : World) : Prop where
  obj : ∀ b x l, s.hp.get b = some x → E b = some l → OR E x l w
  inj : ∀ b b' l l' x x', E b = some l → E b' = some l' → s.hp.get b = some x → s.hp.get b' = some x' → x ≠ .dead → x' ≠ .dead → l.B = l'.B → b = b'
  lt : ∀ b l, E b = some l → b < s.nx ∧ l.B < w.heap.size
  keep : ∀ B, K B → B < w0.heap.size ∧ w.heap[B]? = w0.heap[B]?
  sep : ∀ b l, E b = some l → s.lo ≤ b → ¬ K l.B
  size : w0.heap.size ≤ w.heap.size
  lonx : s.lo ≤ s.nx
  tape : w.tape = w0.tape
  os : w.os = w0.os
  output : w.output = w0.output

theorem ERs.mono {E E' : Env} (hE : Env.le E E') {a : List AEnt} {v : List MapEntry} (h : ERs E a v) : ERs E' a v := by
  induction a generalizing v with
  | nil => cases h; exact .nil
  | cons x a ih => cases h with | cons _ _ _ _ h t => exact .cons _ _ _ _ ⟨h.key.mono hE, h.val.mono hE, h.born⟩ (ih t)
theorem ERs.append {E : Env} {a b : List AEnt} {v u : List MapEntry} (h : ERs E a v) (k : ERs E b u) : ERs E (a ++ b) (v ++ u) := by
  induction a generalizing v with
  | nil => cases h; exact k
  | cons x a ih => cases h with | cons _ _ _ _ h t => exact .cons _ _ _ _ h (ih t)
theorem ERs.length {E : Env} {a : List AEnt} {v : List MapEntry} (h : ERs E a v) : a.length = v.length := by
  induction a generalizing v with
  | nil => cases h; rfl
  | cons x a ih => cases h with | cons _ _ _ _ h t => simp [ih t]
theorem CR'.mono {E E' : Env} (hE : Env.le E E') {c : List AV} {l : Loc} {C : Array Value} {fz : Nat × Nat} (h : CR' E c l C fz) : CR' E' c l C fz :=
  ⟨h.tot, h.fits, h.marks, fun j x hx => let ⟨v, h1, h2⟩ := h.cell j x hx; ⟨v, h1, h2.mono hE⟩⟩
/-- the block's content and the growing of the naming -/
theorem OR.mono {E E' : Env} (hE : Env.le E E') {x : AObj} {l : Loc} {w w' : World} (hw : w'.heap[l.B]? = w.heap[l.B]?) (h : OR E x l w) : OR E' x l w' := by
  cases x with
  | cells c z => obtain ⟨C, el, fz, h1, h2⟩ := h; exact ⟨C, el, fz, by rw [hw, h1], h2.mono hE⟩
  | map es c => obtain ⟨h0, es', h1, h2⟩ := h; exact ⟨h0, es', by rw [hw, h1], h2.mono hE⟩
  | iter m a b c =>
    obtain ⟨h0, m', h1, h2⟩ := h
    refine ⟨h0, m', by rw [hw, h1], ?_⟩
    cases m with
    | none => exact h2
    | some b => obtain ⟨k, h3, h4⟩ := h2; exact ⟨k, hE _ _ h3, h4⟩
  | dead => trivial

section
variable {K : Nat → Prop} {w0 : World} {E : Env} {s : St} {w : World} {P : Program}

/-! ### Loading -/
theorem add_none (B o i : Nat) : (Addr.mk B o none).add i = ⟨B, o + i, none⟩ := by
  unfold Addr.add
  split
  · rename_i h; subst h; rfl
  · rfl
theorem cellsAt_some {b : Nat} {c : List AV} (h : cellsAt s b = some c) : ∃ z, s.hp.get b = some (.cells c z) := by
  unfold cellsAt at h
  split at h
  · rename_i c' z hb; simp at h; subst h; exact ⟨z, hb⟩
  · simp at h
theorem WR.cells (hW : WR K w0 E s w) {b : Nat} {c : List AV} {l : Loc} (h : cellsAt s b = some c) (hE : E b = some l) :
    ∃ C el fz, w.heap[l.B]? = some (.cells C el fz) ∧ CR' E c l C fz := by
  obtain ⟨z, hz⟩ := cellsAt_some h
  exact hW.obj _ _ _ hz hE
theorem cell?_of {B o : Nat} {C : Array Value} {el : TypeId} {fz : Nat × Nat} (h : w.heap[B]? = some (.cells C el fz)) : w.cell? ⟨B, o, none⟩ = C[o]? := by
  simp [World.cell?, h]
theorem WR.cell (hW : WR K w0 E s w) {b o : Nat} {x : AV} {l : Loc} (h : load1 s b o = some x) (hE : E b = some l) :
    ∃ v, w.cell? ⟨l.B, l.o + o, none⟩ = some v ∧ VR E x v := by
  unfold load1 at h
  split at h
  · rename_i c hc
    obtain ⟨C, el, fz, h1, h2⟩ := hW.cells hc hE
    rw [nth_eq] at h
    obtain ⟨v, h3, h4⟩ := h2.cell _ _ h
    exact ⟨v, by rw [cell?_of h1, h3], h4⟩
  · simp at h
theorem run_load_cell {a : Addr} {v : Value} {m : Mode} (h : w.cell? a = some v) : (load a m).run P w = .ok v w := by
  rw [run_load, h]
theorem run_loadFrom {a : Addr} : ∀ (n i : Nat) (acc : Array Value) (vs : List Value),
    (∀ j, j < n → ∃ v, vs[j]? = some v ∧ w.cell? (a.add (i + j)) = some v) → vs.length = n →
    (loadCellsFrom a i n acc).run P w = .ok (acc ++ vs.toArray) w := by
  intro n
  induction n with
  | zero => intro i acc vs _ hl; have : vs = [] := by simpa using hl
            subst this; simp [loadCellsFrom]
  | succ n ih =>
    intro i acc vs h hl
    cases vs with
    | nil => simp at hl
    | cons v vs =>
      obtain ⟨v', h1, h2⟩ := h 0 (by omega)
      simp at h1; subst h1
      unfold loadCellsFrom
      rw [Sem.run_bind, run_load_cell (by simpa using h2), Result.andThen_ok, ih (i + 1) (acc.push v) vs ?_ (by simpa using hl)]
      · congr 1; rw [Array.push_eq_append, Array.append_assoc]; simp
      · intro j hj
        obtain ⟨u, h3, h4⟩ := h (j + 1) (by omega)
        exact ⟨u, by simpa using h3, by rw [show i + 1 + j = i + (j + 1) by omega]; exact h4⟩
theorem WR.loadN (hW : WR K w0 E s w) {b o n : Nat} {xs : List AV} {l : Loc} (h : loadN s b o n = some xs) (hE : E b = some l) :
    ∃ vs, (loadCells ⟨l.B, l.o + o, none⟩ n).run P w = .ok vs.toArray w ∧ VRs E xs vs ∧ vs.length = n := by
  unfold Ex.loadN at h
  split at h
  · rename_i c hc
    obtain ⟨C, el, fz, h1, h2⟩ := hW.cells hc hE
    obtain ⟨h3, h4⟩ := takeN_some h
    rw [dropN_eq] at h3 h4
    have hlen : xs.length = n := by rw [h4]; simp at h3 ⊢; omega
    have hcell : ∀ j, j < n → ∃ v, C[l.o + o + j]? = some v ∧ ∀ x, xs[j]? = some x → VR E x v := by
      intro j hj
      have : o + j < c.length := by simp at h3; omega
      obtain ⟨v, h5, h6⟩ := h2.cell (o + j) c[o + j] (by simp [this])
      refine ⟨v, by rw [← h5]; congr 1; omega, fun x hx => ?_⟩
      rw [h4, List.getElem?_take, if_pos hj, List.getElem?_drop] at hx
      rw [List.getElem?_eq_getElem this] at hx
      cases hx; exact h6
    have hfit := h2.fits
    let vs := (List.range n).map fun j => C.getD (l.o + o + j) default
    have hvs : ∀ j, j < n → ∃ v, vs[j]? = some v ∧ C[l.o + o + j]? = some v := by
      intro j hj
      obtain ⟨v, h5, _⟩ := hcell j hj
      refine ⟨v, ?_, h5⟩
      simp [vs, hj, Array.getD_eq_getD_getElem?, h5]
    refine ⟨vs, ?_, VRs.of_get (by simp [vs, hlen]) ?_, by simp [vs]⟩
    · unfold loadCells
      rw [run_loadFrom n 0 #[] vs ?_ (by simp [vs])]
      · simp
      · intro j hj
        obtain ⟨v, h5, h6⟩ := hvs j hj
        refine ⟨v, h5, ?_⟩
        rw [add_none, cell?_of h1, Nat.zero_add]; exact h6
    · intro j x y hx hy
      have hj : j < n := by rw [← hlen]; exact (List.getElem?_eq_some_iff.1 hx).1
      obtain ⟨v, h5, h6⟩ := hcell j hj
      obtain ⟨u, h7, h8⟩ := hvs j hj
      rw [hy] at h7; cases h7
      rw [h5] at h8; cases h8
      exact h6 x hx
  · simp at h

/-! ### Types -/
theorem run_underlying {t : TypeId} {d : TypeDesc} (h : P.underlying t = some d) : (underlying t).run P w = .ok d w := by
  simp [underlying, h]
theorem run_typeInfo {t : TypeId} {i : TypeInfo} (h : P.info? t = some i) : (typeInfo t).run P w = .ok i w := by
  simp [typeInfo, h]
theorem siz_some {t : TypeId} {n : Nat} (h : siz P t = some n) : ∃ i, P.info? t = some i ∧ i.size = n := by
  unfold siz at h
  cases hi : P.info? t with
  | none => simp [hi] at h
  | some i => simp [hi] at h; exact ⟨i, rfl, h⟩
theorem run_sizeOf {t : TypeId} {n : Nat} (h : siz P t = some n) : (sizeOf t).run P w = .ok n w := by
  obtain ⟨i, h1, h2⟩ := siz_some h
  simp [sizeOf, run_typeInfo h1, h2]
theorem run_isAgg {t : TypeId} {b : Bool} (h : aggT P t = some b) : (isAgg t).run P w = .ok b w := by
  unfold aggT at h
  unfold isAgg
  split at h
  · rename_i fs hu; simp at h; subst h; rw [Sem.run_bind, run_underlying hu]; rfl
  · rename_i n e hu; simp at h; subst h; rw [Sem.run_bind, run_underlying hu]; rfl
  · rename_i d h1 h2 hu
    simp at h; subst h
    rw [Sem.run_bind, run_underlying hu, Result.andThen_ok]
    cases d <;> first | rfl | exact absurd rfl (h1 _) | exact absurd rfl (h2 _ _)
  · simp at h

theorem WR.loadT (hW : WR K w0 E s w) {t : TypeId} {b o : Nat} {x : AV} {l : Loc} (h : loadT P s t b o = some x) (hE : E b = some l) :
    ∃ v, (loadVar t ⟨l.B, l.o + o, none⟩).run P w = .ok v w ∧ VR E x v := by
  unfold Ex.loadT at h
  split at h
  · rename_i ha
    split at h
    · rename_i n hn
      cases hl : Ex.loadN s b o n with
      | none => simp [hl] at h
      | some xs =>
        simp [hl] at h; subst h
        obtain ⟨vs, h1, h2, _⟩ := hW.loadN (P := P) hl hE
        refine ⟨.agg vs.toArray, ?_, .agg _ _ h2⟩
        unfold loadVar
        simp [run_isAgg ha, run_sizeOf hn, h1]
    · simp at h
  · rename_i ha
    obtain ⟨v, h1, h2⟩ := hW.cell h hE
    refine ⟨v, ?_, h2⟩
    unfold loadVar
    simp [run_isAgg ha, h1]
  · simp at h
end
end Go.Ex
