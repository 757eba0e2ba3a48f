/- PROVED: masks of operations; which are ready. Conditions: those in each theorem's own words (the abstract state stands for the world). By an AI agent. -/
import Derived.Test.YtlfmomoogedfiabGreatDoorR20
namespace Go.Ex
/-! ### Masks -/
theorem bitIn_eq (m i : Nat) : bitIn m i = m.testBit i := by
  unfold bitIn Nat.testBit
  rw [beq_dec]
  show decide (Nat.shiftRight m i &&& 1 = 1) = (1 &&& m >>> i != 0)
  rw [Nat.and_comm]
  have : ∀ x : Nat, decide (1 &&& x = 1) = (1 &&& x != 0) := by
    intro x
    rw [Nat.and_comm, Nat.and_one_is_mod]
    rcases Nat.mod_two_eq_zero_or_one x with h | h <;> simp [h]
  exact this _
theorem testBit_one_shl (t i : Nat) : (Nat.shiftLeft 1 t).testBit i = decide (i = t) := by
  show (1 <<< t).testBit i = _
  rw [Nat.one_shiftLeft, Nat.testBit_two_pow]
  simp [eq_comm]
theorem testBit_maskOf (l : List Nat) (i : Nat) : (maskOf l).testBit i = true ↔ i ∈ l := by
  induction l with
  | nil => simp [maskOf]
  | cons t l ih =>
    show (Nat.shiftLeft 1 t ||| maskOf l).testBit i = true ↔ _
    rw [Nat.testBit_or, testBit_one_shl]
    simp [ih]
theorem meets_false {a b : Nat} (h : meets a b = false) {i : Nat} (ha : a.testBit i = true) : b.testBit i = false := by
  unfold meets at h
  simp only [Bool.not_eq_false'] at h
  rw [beq_iff] at h
  have h' : a &&& b = 0 := h
  have := Nat.testBit_and a b i
  rw [h', ha] at this
  simpa using this.symm
theorem land_sub {a b : Nat} (h : Nat.beq (Nat.land a b) a = true) {i : Nat} (ha : a.testBit i = true) : b.testBit i = true := by
  rw [beq_iff] at h
  have h' : a &&& b = a := h
  have := Nat.testBit_and a b i
  rw [h', ha] at this
  simpa using this.symm
theorem testBit_lor (a b i : Nat) : (Nat.lor a b).testBit i = (a.testBit i || b.testBit i) := Nat.testBit_or a b i

section
variable {P : Program} {ops : Array Oper}
/-- what a region's operation waits for -/
def Dep (o : Oper) (i : Nat) : Prop := i ∈ edgesOf o.after.toList
structure POok (P : Program) (ops : Array Oper) (p : PO) : Prop where
  at_ : ops[p.i]? = some p.o
  em : ∀ i, p.em.testBit i = true ↔ Dep p.o i
  lm : ∀ t, p.lm.testBit t = true ↔ t ∈ p.o.looksAt ops
  dm : ∀ t, p.dm.testBit t = true ↔ p.o.dst = some t
  lt : p.lt = true → kindOf P p.o.op ≠ .heavy
theorem posGo_ok : ∀ {l : List Oper} {k : Nat}, (∀ j o, l[j]? = some o → ops[k + j]? = some o) → ∀ p ∈ posGo P ops l k, POok P ops p := by
  intro l
  induction l with
  | nil => intro k _ p hp; simp [posGo] at hp
  | cons o l ih =>
    intro k h p hp
    simp only [posGo, List.mem_cons] at hp
    rcases hp with rfl | hp
    · refine ⟨by simpa using h 0 o rfl, fun i => testBit_maskOf _ _, fun t => testBit_maskOf _ _, fun t => ?_, fun hl hk => ?_⟩
      · rw [testBit_maskOf]; cases o.dst <;> simp [eq_comm]
      · simp only at hl hk
        rw [hk] at hl; cases hl
    · exact ih (k := k + 1) (fun j o' ho => by rw [show k + 1 + j = k + (j + 1) by omega]; exact h (j + 1) o' (by simpa using ho)) p hp
theorem posGo_mem : ∀ {l : List Oper} {k : Nat} {j : Nat} {o : Oper}, l[j]? = some o → ∃ p ∈ posGo P ops l k, p.i = k + j ∧ p.o = o := by
  intro l
  induction l with
  | nil => intro k j o h; simp at h
  | cons o' l ih =>
    intro k j o h
    cases j with
    | zero => simp at h; subst h; exact ⟨_, by simp only [posGo]; exact .head _, rfl, rfl⟩
    | succ j =>
      obtain ⟨p, h1, h2, h3⟩ := ih (k := k + 1) (j := j) (o := o) (by simpa using h)
      exact ⟨p, by simp only [posGo]; exact .tail _ h1, by omega, h3⟩
def allP (P : Program) (ops : Array Oper) : List PO := posGo P ops ops.toList 0
theorem allP_ok {p : PO} (h : p ∈ allP P ops) : POok P ops p := posGo_ok (k := 0) (fun j o ho => by simpa using ho) p h
theorem allP_mem {j : Nat} {o : Oper} (h : ops[j]? = some o) : ∃ p ∈ allP P ops, p.i = j ∧ p.o = o := by
  obtain ⟨p, h1, h2, h3⟩ := posGo_mem (P := P) (ops := ops) (l := ops.toList) (k := 0) (j := j) (o := o) (by simpa using h)
  exact ⟨p, h1, by omega, h3⟩
theorem findLight_some {listed pl : Nat} : ∀ {l : List PO} {p : PO}, findLight listed pl l = some p →
    p ∈ l ∧ p.lt = true ∧ readyP listed p = true ∧ meets p.dm pl = false ∧ meets p.dm p.lm = false := by
  intro l
  induction l with
  | nil => intro p h; cases h
  | cons q l ih =>
    intro p h
    simp only [findLight] at h
    cases hc : (q.lt && readyP listed q && !(meets q.dm pl) && !(meets q.dm q.lm)) with
    | true =>
      rw [hc] at h
      simp only [cond_true, Option.some.injEq] at h
      subst h
      simp only [Bool.and_eq_true, Bool.not_eq_true'] at hc
      exact ⟨.head _, hc.1.1.1, hc.1.1.2, hc.1.2, hc.2⟩
    | false =>
      rw [hc] at h
      obtain ⟨h1, h2⟩ := ih h
      exact ⟨.tail _ h1, h2⟩
theorem readyAll_mem {listed : Nat} {l : List PO} {p : PO} : p ∈ readyAll listed l ↔ p ∈ l ∧ readyP listed p = true := by
  induction l with
  | nil => simp [readyAll]
  | cons q l ih =>
    simp only [readyAll]
    cases hc : readyP listed q with
    | true =>
      simp only [cond_true, List.mem_cons, ih]
      constructor
      · rintro (rfl | ⟨h1, h2⟩)
        · exact ⟨.inl rfl, hc⟩
        · exact ⟨.inr h1, h2⟩
      · rintro ⟨rfl | h1, h2⟩
        · exact .inl rfl
        · exact .inr ⟨h1, h2⟩
    | false =>
      simp only [cond_false, ih, List.mem_cons]
      constructor
      · rintro ⟨h1, h2⟩; exact ⟨.inr h1, h2⟩
      · rintro ⟨rfl | h1, h2⟩
        · rw [hc] at h2; cases h2
        · exact ⟨h1, h2⟩
theorem readyP_iff {listed : Nat} {p : PO} (hp : POok P ops p) : readyP listed p = true ↔ listed.testBit p.i = false ∧ ∀ i, Dep p.o i → listed.testBit i = true := by
  unfold readyP
  rw [Bool.and_eq_true, Bool.not_eq_true', bitIn_eq]
  constructor
  · rintro ⟨h1, h2⟩
    exact ⟨h1, fun i hi => land_sub h2 ((hp.em i).2 hi)⟩
  · rintro ⟨h1, h2⟩
    refine ⟨h1, ?_⟩
    rw [beq_iff]
    apply Nat.eq_of_testBit_eq
    intro i
    show (p.em &&& listed).testBit i = _
    rw [Nat.testBit_and]
    cases hc : p.em.testBit i with
    | false => rfl
    | true => rw [h2 i ((hp.em i).1 hc)]; rfl
theorem edges_mem {l : List Edge} {i : Nat} : i ∈ edgesOf l ↔ ∃ e ∈ l, Region.binds .any e = true ∧ e.on = i := by
  induction l with
  | nil => simp [edgesOf]
  | cons e l ih =>
    simp only [edgesOf]
    cases hc : Region.binds .any e with
    | true =>
      simp only [cond_true, List.mem_cons, ih]
      constructor
      · rintro (rfl | ⟨e', h1, h2, h3⟩)
        · exact ⟨e, .inl rfl, hc, rfl⟩
        · exact ⟨e', .inr h1, h2, h3⟩
      · rintro ⟨e', rfl | h1, h2, h3⟩
        · exact .inl h3.symm
        · exact .inr ⟨e', h1, h2, h3⟩
    | false =>
      simp only [cond_false, ih, List.mem_cons]
      constructor
      · rintro ⟨e', h1, h2, h3⟩; exact ⟨e', .inr h1, h2, h3⟩
      · rintro ⟨e', rfl | h1, h2, h3⟩
        · rw [hc] at h2; cases h2
        · exact ⟨e', h1, h2, h3⟩
/-- the model's ready ones -/
theorem ready_iff {listed : Array Bool} {j : Nat} : j ∈ Region.ready .any ops listed ↔ ∃ o, ops[j]? = some o ∧ listed.getD j true = false ∧ ∀ i, Dep o i → listed.getD i false = true := by
  unfold Region.ready
  rw [List.mem_filter, List.mem_range]
  constructor
  · rintro ⟨h1, h2⟩
    rw [Array.getElem?_eq_getElem h1] at h2
    simp only [Bool.and_eq_true, Bool.not_eq_true', Option.map_some, Option.getD_some] at h2
    obtain ⟨h2, h3⟩ := h2
    refine ⟨ops[j], by simp [h1], h2, fun i hi => ?_⟩
    obtain ⟨e, e1, e2, rfl⟩ := edges_mem.1 hi
    have := Array.all_eq_true'.1 h3 e (by simpa using e1)
    simpa [e2] using this
  · rintro ⟨o, h1, h2, h3⟩
    obtain ⟨hj, rfl⟩ := Array.getElem?_eq_some_iff.1 h1
    refine ⟨hj, ?_⟩
    rw [h1]
    simp only [Bool.and_eq_true, Bool.not_eq_true', Option.map_some, Option.getD_some]
    refine ⟨h2, Array.all_eq_true'.2 fun e he => ?_⟩
    cases hb : Region.binds .any e with
    | false => simp
    | true => simpa using h3 e.on (edges_mem.2 ⟨e, by simpa using he, hb, rfl⟩)
end
end Go.Ex
