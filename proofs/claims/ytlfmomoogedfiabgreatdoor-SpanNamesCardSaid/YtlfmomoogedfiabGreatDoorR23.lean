/- PROVED: promises: operations done ahead. Conditions: those in each theorem's own words (the abstract state stands for the world). By an AI agent. -/
import Derived.Test.YtlfmomoogedfiabGreatDoorR22
namespace Go.Ex
section
variable {K : Nat → Prop} {w0 : World} {E E' : Env} {s s' : St} {w : World} {P : Program} {G : Nat} {ext : FuncId → Option Ext} {X : Nat → Bool} {a a' : AAct} {act : Act} {ops : Array Oper}

theorem wantedA_congr {tm tm' : Tr AV} {o : Oper} (h : ∀ t ∈ o.looksAt ops, tm'.get t = tm.get t) : wantedA ops tm' o = wantedA ops tm o := by
  unfold wantedA
  split
  · rfl
  · rename_i j want hg
    split
    · rfl
    · rename_i d hd
      rw [h d]
      unfold Oper.looksAt
      exact List.mem_append_right _ (by rw [hg]; simp [hd])
theorem evA_same {tm tm' : Tr AV} {o : Oper} (h : ∀ t ∈ o.looksAt ops, tm'.get t = tm.get t) : ∀ x ∈ o.op.operands, evA G tm' x = evA G tm x := by
  intro x hx
  cases x with
  | tmp t => exact h t (looks_operand hx)
  | _ => rfl

/-- what stands foretold of an operation that the abstract machine has done and the real one not yet -/
def Promise (P : Program) (G : Nat) (ops : Array Oper) (E : Env) (n0 : Nat) (a : AAct) (s : St) (o : Oper) (b : Option Nat) : Prop :=
  (∀ d, o.dst = some d → d < a.nt) ∧
  ((wantedA ops a.tm o = some false ∧ b = none ∧ ∀ d, o.dst = some d → a.tm.get d = some undefA) ∨
   (wantedA ops a.tm o = some true ∧ kindOf P o.op = .light ∧ b = none ∧ ∃ v, execL P G a.tm s o.op = some v ∧ ∀ d, o.dst = some d → a.tm.get d = some v) ∨
   (wantedA ops a.tm o = some true ∧ kindOf P o.op = .alloc ∧ ∃ b' x r, b = some b' ∧ execN P G a.tm s o.op = some (x, r) ∧ (∀ d, o.dst = some d → a.tm.get d = some (r b')) ∧
      s.hp.get b' = some x ∧ b' < s.nx ∧ n0 ≤ b' ∧ E b' = none))
theorem recheck_light {o : Oper} (h : recheck P G ops a s o = true) (hw : wantedA ops a.tm o = some true) (hk : kindOf P o.op = .light) :
    ∃ v, execL P G a.tm s o.op = some v ∧ ∀ d, o.dst = some d → a.tm.get d = some v := by
  unfold recheck at h
  rw [hw] at h
  simp only [hk] at h
  split at h
  · rename_i v hv
    refine ⟨v, hv, fun d hd => ?_⟩
    rw [hd] at h
    simp only at h
    split at h
    · rename_i v' hv'
      rw [hv', beq_eq _ _ h]
    · cases h
  · cases h
theorem recheck_alloc {o : Oper} (h : recheck P G ops a s o = true) (hw : wantedA ops a.tm o = some true) (hk : kindOf P o.op = .alloc) {b : Nat} {r0 : Nat → AV} (hb : ∀ d, o.dst = some d → a.tm.get d = some (r0 b)) (hr0 : baseOf (r0 b) = some b) :
    ∃ x r, execN P G a.tm s o.op = some (x, r) ∧ (∀ d, o.dst = some d → a.tm.get d = some (r b)) ∧ s.hp.get b = some x := by
  unfold recheck at h
  rw [hw] at h
  simp only [hk] at h
  split at h
  · rename_i x r v hx hv
    cases hd : o.dst with
    | none => rw [hd] at hv; cases hv
    | some d =>
      rw [hd] at hv
      simp only at hv
      have h0 := hb d hd
      rw [hv] at h0
      cases h0
      rw [hr0] at h
      simp only [Bool.and_eq_true] at h
      obtain ⟨h1, h2⟩ := h
      have e := beq_eq _ _ h1
      refine ⟨x, r, hx, fun d' hd' => by cases hd'; rw [hv, e], ?_⟩
      split at h2
      · rename_i c z c' z' hb'
        simp only [Bool.and_eq_true, beq_iff] at h2
        rw [hb', beqs_eq _ _ h2.1, h2.2]
      · rename_i hb'; rw [hb']
      · cases h2
  · cases h
theorem Promise.keep {o : Oper} {b : Option Nat} {n0 : Nat} (h : Promise P G ops E n0 a s o b) (hl : ∀ t ∈ o.looksAt ops, a'.tm.get t = a.tm.get t) (hd : ∀ d, o.dst = some d → a'.tm.get d = a.tm.get d) (hnt : a'.nt = a.nt)
    (hs : s' = s ∨ (readsH P o.op = true → recheck P G ops a' s' o = true)) (hE : ∀ b', b = some b' → E' b' = none) (hf : Fwd s s') : Promise P G ops E' n0 a' s' o b := by
  obtain ⟨h0, h1⟩ := h
  refine ⟨fun d q => by rw [hnt]; exact h0 d q, ?_⟩
  have hw := wantedA_congr hl
  have hev := evA_same (G := G) hl
  rcases h1 with ⟨c1, c2, c3⟩ | ⟨c1, c2, c3, v, c4, c5⟩ | ⟨c1, c2, b', x, r, c3, c4, c5, c6, c7, c8, c9⟩
  · exact .inl ⟨by rw [hw, c1], c2, fun d q => by rw [hd d q]; exact c3 d q⟩
  · refine .inr (.inl ⟨by rw [hw, c1], c2, c3, ?_⟩)
    have same : ∀ s2, execL P G a'.tm s2 o.op = execL P G a.tm s2 o.op := fun s2 => (exec_congr (ext := fun _ => none) hev).1
    rcases hs with rfl | hs
    · exact ⟨v, by rw [same]; exact c4, fun d q => by rw [hd d q]; exact c5 d q⟩
    · cases hr : readsH P o.op with
      | false => exact ⟨v, by rw [same, execL_pure (s' := s) hr]; exact c4, fun d q => by rw [hd d q]; exact c5 d q⟩
      | true => exact recheck_light (hs hr) (by rw [hw, c1]) c2
  · refine .inr (.inr ⟨by rw [hw, c1], c2, ?_⟩)
    have same : ∀ s2, execN P G a'.tm s2 o.op = execN P G a.tm s2 o.op := fun s2 => (exec_congr (ext := fun _ => none) hev).2.1
    rcases hs with rfl | hs
    · exact ⟨b', x, r, c3, by rw [same]; exact c4, fun d q => by rw [hd d q]; exact c5 d q, c6, c7, c8, hE _ c3⟩
    · have hr : readsH P o.op = true := by unfold readsH; rw [c2]
      obtain ⟨x', r', g1, g2, g3⟩ := recheck_alloc (hs hr) (by rw [hw, c1]) c2 (b := b') (r0 := r) (fun d q => by rw [hd d q]; exact c5 d q) (execN_base c4 b')
      exact ⟨b', x', r', c3, g1, g2, g3, Nat.lt_of_lt_of_le c7 hf.nx, c8, hE _ c3⟩

/-! ### Those done ahead -/
abbrev PList := List (PO × Option Nat)
/-- a set of operations with all that they wait for -/
def DC (P : Program) (ops : Array Oper) (S : Nat → Prop) : Prop := ∀ p ∈ allP P ops, S p.i → ∀ i, Dep p.o i → S i
def idx (l : PList) (i : Nat) : Prop := ∃ q ∈ l, q.1.i = i
def pendX (l : PList) (t : Nat) : Bool := l.any fun q => q.1.o.dst == some t
theorem pendX_false {l : PList} {t : Nat} : pendX l t = false ↔ ∀ q ∈ l, q.1.o.dst ≠ some t := by
  unfold pendX
  rw [List.any_eq_false]
  simp
structure PHead (P : Program) (ops : Array Oper) (listed : Nat → Prop) (q : PO × Option Nat) (pre : PList) : Prop where
  mem : q.1 ∈ allP P ops
  deps : ∀ i, Dep q.1.o i → listed i ∨ idx pre i
  out : ¬ listed q.1.i
  new : ∀ q' ∈ pre, q'.1.i ≠ q.1.i
  names : ∀ q' ∈ pre, ∀ b, q.2 = some b → q'.2 ≠ some b
  self : ∀ d, q.1.o.dst = some d → d ∉ q.1.o.looksAt ops
  apart : ∀ q' ∈ pre, ∀ d, q.1.o.dst = some d → d ∉ q'.1.o.looksAt ops ∧ q'.1.o.dst ≠ some d
  sees : ∀ q' ∈ pre, ∀ d, q'.1.o.dst = some d → d ∈ q.1.o.looksAt ops → ∀ S, DC P ops S → (∀ i, Dep q.1.o i → S i) → S q'.1.i
inductive POK (P : Program) (ops : Array Oper) (listed : Nat → Prop) : PList → Prop where
  | nil : POK P ops listed []
  | cons (q : PO × Option Nat) (pre : PList) (h : PHead P ops listed q pre) (t : POK P ops listed pre) : POK P ops listed (q :: pre)
theorem POK.mem {listed : Nat → Prop} {l : PList} (h : POK P ops listed l) : ∀ q ∈ l, q.1 ∈ allP P ops ∧ ¬ listed q.1.i ∧ ∀ d, q.1.o.dst = some d → d ∉ q.1.o.looksAt ops := by
  induction h with
  | nil => intro q hq; cases hq
  | cons q0 pre h _ ih =>
    intro q hq
    rcases List.mem_cons.1 hq with rfl | hq
    · exact ⟨h.mem, h.out, h.self⟩
    · exact ih q hq
/-- of two done ahead, the one that the real machine may take next does not look at what the other writes -/
theorem POK.seen {listed : Nat → Prop} {l : PList} (h : POK P ops listed l) (hdc : DC P ops listed) : ∀ q ∈ l, (∀ i, Dep q.1.o i → listed i) → Seen (pendX l) (q.1.o.looksAt ops) := by
  induction h with
  | nil => intro q hq; cases hq
  | cons q0 pre h hp ih =>
    intro q hq hr t ht
    rw [pendX_false]
    intro q' hq' hd
    rcases List.mem_cons.1 hq with rfl | hq1
    · rcases List.mem_cons.1 hq' with rfl | hq2
      · exact h.self t hd ht
      · exact (hp.mem q' hq2).2.1 (h.sees q' hq2 t hd ht listed hdc hr)
    · rcases List.mem_cons.1 hq' with rfl | hq2
      · exact (h.apart q hq1 t hd).1 ht
      · have := ih q hq1 hr t ht
        rw [pendX_false] at this
        exact this q' hq2 hd
/-- different ones write different places -/
theorem POK.dsts {listed : Nat → Prop} {l : PList} (h : POK P ops listed l) : ∀ q ∈ l, ∀ q' ∈ l, q.1.i ≠ q'.1.i → ∀ d, q.1.o.dst = some d → q'.1.o.dst ≠ some d := by
  induction h with
  | nil => intro q hq; cases hq
  | cons q0 pre h _ ih =>
    intro q hq q' hq' hne d hd
    rcases List.mem_cons.1 hq with rfl | hq1
    · rcases List.mem_cons.1 hq' with rfl | hq2
      · exact absurd rfl hne
      · exact (h.apart q' hq2 d hd).2
    · rcases List.mem_cons.1 hq' with rfl | hq2
      · intro e; exact (h.apart q hq1 d e).2 hd
      · exact ih q hq1 q' hq2 hne d hd
theorem POK.names {listed : Nat → Prop} {l : PList} (h : POK P ops listed l) : ∀ q ∈ l, ∀ q' ∈ l, q.1.i ≠ q'.1.i → ∀ b, q.2 = some b → q'.2 ≠ some b := by
  induction h with
  | nil => intro q hq; cases hq
  | cons q0 pre h _ ih =>
    intro q hq q' hq' hne b hb
    rcases List.mem_cons.1 hq with rfl | hq1
    · rcases List.mem_cons.1 hq' with rfl | hq2
      · exact absurd rfl hne
      · exact h.names q' hq2 b hb
    · rcases List.mem_cons.1 hq' with rfl | hq2
      · intro e; exact h.names q hq1 b e hb
      · exact ih q hq1 q' hq2 hne b hb
/-- one of them the real machine may take -/
theorem POK.ready {listed : Nat → Prop} {l : PList} (h : POK P ops listed l) (hne : l ≠ []) : ∃ q ∈ l, ∀ i, Dep q.1.o i → listed i := by
  induction h with
  | nil => exact absurd rfl hne
  | cons q0 pre h _ ih =>
    cases pre with
    | nil =>
      refine ⟨q0, .head _, fun i hi => ?_⟩
      rcases h.deps i hi with h1 | ⟨q, hq, _⟩
      · exact h1
      · cases hq
    | cons q1 pre =>
      obtain ⟨q, h1, h2⟩ := ih (by simp)
      exact ⟨q, .tail _ h1, h2⟩
def drop (j : Nat) (l : PList) : PList := l.filter fun q => q.1.i != j
theorem mem_drop {j : Nat} {l : PList} {q : PO × Option Nat} : q ∈ drop j l ↔ q ∈ l ∧ q.1.i ≠ j := by
  unfold drop
  rw [List.mem_filter]
  simp
/-- one is taken -/
theorem POK.drop {listed : Nat → Prop} {l : PList} (h : POK P ops listed l) (j : Nat) : POK P ops (fun i => listed i ∨ i = j) (Ex.drop j l) := by
  induction h with
  | nil => exact .nil
  | cons q0 pre h _ ih =>
    unfold Ex.drop
    rw [List.filter_cons]
    by_cases c : q0.1.i = j
    · rw [if_neg (by simp [c])]; exact ih
    · rw [if_pos (by simpa using c)]
      have sub : ∀ q ∈ Ex.drop j pre, q ∈ pre := fun q hq => (mem_drop.1 hq).1
      refine .cons _ _ ⟨h.mem, fun i hi => ?_, fun q => ?_, fun q hq => h.new q (sub q hq), fun q hq => h.names q (sub q hq), h.self, fun q hq => h.apart q (sub q hq), fun q hq => h.sees q (sub q hq)⟩ ih
      · rcases h.deps i hi with h1 | ⟨q, hq, h2⟩
        · exact .inl (.inl h1)
        · by_cases e : q.1.i = j
          · exact .inl (.inr (by rw [← h2, e]))
          · exact .inr ⟨q, mem_drop.2 ⟨hq, e⟩, h2⟩
      · rcases q with q | q
        · exact h.out q
        · exact c q
theorem POK.more {listed : Nat → Prop} {l : PList} (h : POK P ops listed l) {j : Nat} (hj : ¬ idx l j) : POK P ops (fun i => listed i ∨ i = j) l := by
  induction h with
  | nil => exact .nil
  | cons q0 pre h _ ih =>
    refine .cons _ _ ⟨h.mem, fun i hi => ?_, fun q => ?_, h.new, h.names, h.self, h.apart, h.sees⟩ (ih fun ⟨q, h1, h2⟩ => hj ⟨q, .tail _ h1, h2⟩)
    · rcases h.deps i hi with h1 | h1
      · exact .inl (.inl h1)
      · exact .inr h1
    · rcases q with q | q
      · exact h.out q
      · exact hj ⟨q0, .head _, q⟩
end
end Go.Ex
