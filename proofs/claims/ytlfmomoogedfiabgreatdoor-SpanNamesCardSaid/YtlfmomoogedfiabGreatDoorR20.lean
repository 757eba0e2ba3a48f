/- PROVED: activations; the relation with temporaries left out. Conditions: those in each theorem's own words (the abstract state stands for the world). By an AI agent. -/
import Derived.Test.YtlfmomoogedfiabGreatDoorR19
namespace Go.Ex
/-! ### Trees with keys left out -/
def Tr.cut {α : Type} : Tr α → (Nat → Bool) → Tr α
  | .lf, _ => .lf
  | .nd l v r, g => .nd (l.cut fun m => g (2 * m + 1)) (if g 0 then none else v) (r.cut fun m => g (2 * m + 2))
theorem Tr.get_cut {α : Type} (t : Tr α) : ∀ (g : Nat → Bool) (n : Nat), (t.cut g).get n = if g n then none else t.get n := by
  induction t with
  | lf => intro g n; simp [Tr.cut, get_lf]
  | nd l v r ihl ihr =>
    intro g n
    unfold Tr.cut
    rw [get_nd, get_nd]
    cases n with
    | zero => rfl
    | succ m =>
      simp only
      by_cases c : m % 2 = 0
      · simp only [c, if_true, ihl]
        rw [show 2 * (m / 2) + 1 = m + 1 by omega]
      · simp only [c, if_false, ihr]
        rw [show 2 * (m / 2) + 2 = m + 1 by omega]

/-! ### Activations -/
inductive DRs (E : Env) : List ADef → List Deferred → Prop where
  | nil : DRs E [] []
  | cons (d : ADef) (d' : Deferred) (ds : List ADef) (ds' : List Deferred) (h : DR E d d') (t : DRs E ds ds') : DRs E (d :: ds) (d' :: ds')
theorem DR.mono {E E' : Env} (hE : Env.le E E') {d : ADef} {d' : Deferred} (h : DR E d d') : DR E' d d' := by
  obtain ⟨c, a, h1, h2, h3⟩ := h
  exact ⟨c, a, h1, h2.mono hE, h3.mono hE⟩
theorem DRs.mono {E E' : Env} (hE : Env.le E E') {d : List ADef} {d' : List Deferred} (h : DRs E d d') : DRs E' d d' := by
  induction h with
  | nil => exact .nil
  | cons _ _ _ _ h _ ih => exact .cons _ _ _ _ (h.mono hE) ih
/-- an activation; the temporaries in X are left out -/
structure AR (E : Env) (X : Nat → Bool) (a : AAct) (act : Act) : Prop where
  tm : ∀ t x, a.tm.get t = some x → X t = false → ∃ v, act.tmps[t]? = some v ∧ VR E x v
  nt : a.nt ≤ act.tmps.size
  df : DRs E a.df act.defers
theorem AR.mono {E E' : Env} {X : Nat → Bool} {a : AAct} {act : Act} (hE : Env.le E E') (h : AR E X a act) : AR E' X a act :=
  ⟨fun t x hx ht => let ⟨v, h1, h2⟩ := h.tm t x hx ht; ⟨v, h1, h2.mono hE⟩, h.nt, h.df.mono hE⟩
def noX : Nat → Bool := fun _ => false
theorem put_some {a a' : AAct} {dst : Option Tmp} {v : AV} (h : a.put dst v = some a') :
    a'.nt = a.nt ∧ a'.df = a.df ∧ (∀ t, a'.tm.get t = if dst = some t then some v else a.tm.get t) ∧ (∀ d, dst = some d → d < a.nt) := by
  unfold AAct.put at h
  cases dst with
  | none => cases h; exact ⟨rfl, rfl, fun t => by simp, fun d hd => by cases hd⟩
  | some d =>
    simp only at h
    replace h := bif_some h; obtain ⟨hd, h⟩ := h
    rw [ble_iff] at hd
    cases h
    refine ⟨rfl, rfl, fun t => ?_, fun d' hd' => by cases hd'; exact hd⟩
    simp only [Tr.get_set, Option.some.injEq, eq_comm]
theorem put_tmps (act : Act) (dst : Option Tmp) (v : Value) (t : Nat) : (act.put dst v).tmps[t]? = if dst = some t ∧ t < act.tmps.size then some v else act.tmps[t]? := by
  cases dst with
  | none => simp [Act.put]
  | some d =>
    simp only [Act.put, Array.getElem?_setIfInBounds, Option.some.injEq]
    by_cases e : d = t
    · subst e
      by_cases c : d < act.tmps.size
      · simp [c]
      · simp [c]
    · simp [e]
theorem put_size (act : Act) (dst : Option Tmp) (v : Value) : (act.put dst v).tmps.size = act.tmps.size := by cases dst <;> simp [Act.put]
theorem put_defers (act : Act) (dst : Option Tmp) (v : Value) : (act.put dst v).defers = act.defers := by cases dst <;> rfl
/-- both write -/
theorem AR.put {E E' : Env} {X X' : Nat → Bool} {a a' : AAct} {act : Act} {dst : Option Tmp} {x : AV} {v : Value} (h : AR E X a act) (hE : Env.le E E') (hp : a.put dst x = some a') (hv : VR E' x v)
    (hX : ∀ t, X' t = false → X t = false ∨ dst = some t) : AR E' X' a' (act.put dst v) := by
  obtain ⟨p1, p2, p3, p4⟩ := put_some hp
  refine ⟨fun t y hy ht => ?_, by rw [p1, put_size]; exact h.nt, by rw [p2, put_defers]; exact h.df.mono hE⟩
  rw [p3] at hy
  rw [put_tmps]
  by_cases e : dst = some t
  · rw [if_pos e] at hy; cases hy
    rw [if_pos ⟨e, Nat.lt_of_lt_of_le (p4 _ e) h.nt⟩]
    exact ⟨v, rfl, hv⟩
  · rw [if_neg e] at hy
    rw [if_neg (fun q => e q.1)]
    obtain ⟨u, h1, h2⟩ := h.tm t y hy ((hX t ht).resolve_right e)
    exact ⟨u, h1, h2.mono hE⟩
/-- only the abstract one writes: the place is left out -/
theorem AR.ahead {E : Env} {X X' : Nat → Bool} {a a' : AAct} {act : Act} {dst : Option Tmp} {x : AV} (h : AR E X a act) (hp : a.put dst x = some a')
    (hX : ∀ t, X' t = false → X t = false ∧ dst ≠ some t) : AR E X' a' act := by
  obtain ⟨p1, p2, p3, p4⟩ := put_some hp
  refine ⟨fun t y hy ht => ?_, by rw [p1]; exact h.nt, by rw [p2]; exact h.df⟩
  obtain ⟨c1, c2⟩ := hX t ht
  rw [p3, if_neg c2] at hy
  exact h.tm t y hy c1
/-- the real one catches up -/
theorem AR.catch {E E' : Env} {X X' : Nat → Bool} {a : AAct} {act : Act} {dst : Option Tmp} {x : AV} {v : Value} (h : AR E X a act) (hE : Env.le E E') (hx : ∀ d, dst = some d → a.tm.get d = some x ∧ d < a.nt) (hv : VR E' x v)
    (hX : ∀ t, X' t = false → X t = false ∨ dst = some t) : AR E' X' a (act.put dst v) := by
  refine ⟨fun t y hy ht => ?_, by rw [put_size]; exact h.nt, by rw [put_defers]; exact h.df.mono hE⟩
  rw [put_tmps]
  by_cases e : dst = some t
  · obtain ⟨h1, h2⟩ := hx t e
    rw [h1] at hy; cases hy
    rw [if_pos ⟨e, Nat.lt_of_lt_of_le h2 h.nt⟩]
    exact ⟨v, rfl, hv⟩
  · rw [if_neg (fun q => e q.1)]
    obtain ⟨u, h1, h2⟩ := h.tm t y hy ((hX t ht).resolve_right e)
    exact ⟨u, h1, h2.mono hE⟩
section
variable {K : Nat → Prop} {w0 : World} {E : Env} {s : St} {w : World} {P : Program} {G : Nat} {ext : FuncId → Option Ext} {X : Nat → Bool} {a : AAct} {act : Act}

/-- what an operation looks at is not left out -/
def Seen (X : Nat → Bool) (l : List Tmp) : Prop := ∀ t ∈ l, X t = false
theorem looks_operand {ops : Array Oper} {o : Oper} {t : Tmp} (h : Operand.tmp t ∈ o.op.operands) : t ∈ o.looksAt ops :=
  List.mem_append_left _ (List.mem_filterMap.2 ⟨.tmp t, by simpa using h, rfl⟩)
theorem AR.ops (h : AR E X a act) (hG : Glob E G) {ops : Array Oper} {o : Oper} (hs : Seen X (o.looksAt ops)) :
    ∃ tm₀, OpR E G tm₀ act.eval ∧ ∀ x ∈ o.op.operands, evA G a.tm x = evA G tm₀ x := by
  refine ⟨a.tm.cut X, evA_ok hG (fun t x hx => ?_), fun x hx => ?_⟩
  · rw [Tr.get_cut] at hx
    cases hX : X t with
    | true => simp [hX] at hx
    | false => simp [hX] at hx; exact h.tm t x hx hX
  · cases x with
    | tmp t =>
      simp only [evA]
      rw [Tr.get_cut, hs t (looks_operand hx)]
      rfl
    | _ => rfl
def boolOf : Value → Option Bool
  | .bool b => some b
  | _ => none
/-- whether an operation is wanted -/
theorem AR.wanted (h : AR E X a act) {ops : Array Oper} {o : Oper} (hs : Seen X (o.looksAt ops)) {b : Bool} (hw : wantedA ops a.tm o = some b) :
    Region.wanted o (yielded ops act.tmps) = b := by
  unfold wantedA at hw
  unfold Region.wanted
  cases hg : o.guard with
  | none => rw [hg] at hw; cases hw; rfl
  | some jw =>
    obtain ⟨j, want⟩ := jw
    rw [hg] at hw
    simp only at hw ⊢
    cases hd : (ops[j]?).bind (·.dst) with
    | none => rw [hd] at hw; cases hw
    | some d =>
      rw [hd] at hw
      simp only at hw
      have hX : X d = false := hs d (by
        unfold Oper.looksAt
        exact List.mem_append_right _ (by rw [hg]; simp [hd]))
      cases hget : a.tm.get d with
      | none => rw [hget] at hw; cases hw
      | some x =>
        rw [hget] at hw
        obtain ⟨v, h1, h2⟩ := h.tm d x hget hX
        have hy : yielded ops act.tmps j = boolOf v := by
          unfold yielded
          rw [hd]
          simp only [Option.bind_some, h1]
          cases v <;> rfl
        rw [hy]
        clear hy h1
        cases h2 with
        | bool b' =>
          simp only [Option.some.injEq] at hw
          subst hw
          cases b' <;> cases want <;> rfl
        | _ => simp only [Option.some.injEq] at hw; subst hw; first | rfl | (unfold emptyAt; rfl)
/-- a light operation, in the model's own steps -/
theorem light_wp (hW : WR K w0 E s w) (hG : Glob E G) (hA : AR E X a act) {ops : Array Oper} {o : Oper} (hs : Seen X (o.looksAt ops)) {v : AV} (h : execL P G a.tm s o.op = some v)
    {next : Act → World → Prop} {Q : Exit → Act → World → Prop} (k : ∀ z, VR E v z → next (act.put o.dst z) w) : o.wp P act w next Q := by
  obtain ⟨tm₀, h1, h2⟩ := hA.ops hG hs
  rw [(exec_congr (ext := fun _ => none) h2).1] at h
  obtain ⟨z, h3, h4⟩ := execL_ok hW h1 h
  unfold Oper.wp
  rw [h3, Oper.upon_value]
  exact k z h4
theorem alloc_wp (hW : WR K w0 E s w) (hG : Glob E G) (hA : AR E X a act) {ops : Array Oper} {o : Oper} (hs : Seen X (o.looksAt ops)) {x : AObj} {r : Nat → AV} (h : execN P G a.tm s o.op = some (x, r))
    {next : Act → World → Prop} {Q : Exit → Act → World → Prop} (k : ∀ z w' ob n d, Born E w w' x r z ob n d → next (act.put o.dst z) w') : o.wp P act w next Q := by
  obtain ⟨tm₀, h1, h2⟩ := hA.ops hG hs
  rw [(exec_congr (ext := fun _ => none) h2).2.1] at h
  obtain ⟨z, w', ob, n, d, h3, h4⟩ := execN_ok hW h1 h
  unfold Oper.wp
  rw [h3, Oper.upon_value]
  exact k z w' ob n d h4
theorem heavy_run (hX : ExtOK P ext) (hW : WR K w0 E s w) (hG : Glob E G) (hA : AR E X a act) {ops : Array Oper} {o : Oper} (hs : Seen X (o.looksAt ops)) {r : HR} (h : execH P G ext a.tm s o.op = some r) :
    HOK K w0 P E s w (execOp act.eval o) r := by
  obtain ⟨tm₀, h1, h2⟩ := hA.ops hG hs
  rw [(exec_congr h2).2.2] at h
  exact execH_ok hX hW h1 h
theorem WR.nameX (hW : WR K w0 E s w) {b : Nat} {x : AObj} {o : Obj} {n d : Nat} (hE : E b = none) (hbn : b < s.nx) (hlo : s.lo ≤ b) (hb : s.hp.get b = some x)
    (ho : ∀ E' w', Env.le E E' → w'.heap[w.heap.size]? = some o → OR E' x ⟨w.heap.size, 0, n⟩ w') :
    WR K w0 (E.add b ⟨w.heap.size, 0, n⟩) s { w with heap := w.heap.push o, drawn := d } := by
  have hle : Env.le E (E.add b ⟨w.heap.size, 0, n⟩) := Env.le_add hE
  have hold : ∀ k, k < w.heap.size → (w.heap.push o)[k]? = w.heap[k]? := fun k hk => by rw [Array.getElem?_push, if_neg (by omega)]
  refine ⟨?_, ?_, ?_, ?_, ?_, by simp; have := hW.size; omega, hW.lonx, hW.tape, hW.os, hW.output⟩
  · intro b' y l h1 h2
    unfold Env.add at h2
    by_cases e : b' = b
    · rw [if_pos e] at h2; cases h2; subst e; rw [hb] at h1; cases h1
      exact ho _ _ hle (by simp)
    · rw [if_neg e] at h2
      exact (hW.obj _ _ _ h1 h2).mono hle (hold _ (hW.lt _ _ h2).2)
  · intro b1 b2 l1 l2 x1 x2 e1 e2 g1 g2 d1 d2 hB
    unfold Env.add at e1 e2
    by_cases c1 : b1 = b
    · by_cases c2 : b2 = b
      · rw [c1, c2]
      · rw [if_pos c1] at e1; rw [if_neg c2] at e2; cases e1
        have := (hW.lt _ _ e2).2; simp at hB; omega
    · rw [if_neg c1] at e1
      by_cases c2 : b2 = b
      · rw [if_pos c2] at e2; cases e2
        have := (hW.lt _ _ e1).2; simp at hB; omega
      · rw [if_neg c2] at e2
        exact hW.inj _ _ _ _ _ _ e1 e2 g1 g2 d1 d2 hB
  · intro b' l h
    unfold Env.add at h
    by_cases e : b' = b
    · rw [if_pos e] at h; cases h; simp [e, hbn]
    · rw [if_neg e] at h; obtain ⟨h1, h2⟩ := hW.lt _ _ h; simp; omega
  · intro B hB
    obtain ⟨h1, h2⟩ := hW.keep B hB
    refine ⟨h1, ?_⟩
    have := hW.size
    show (w.heap.push o)[B]? = _
    rw [hold B (by omega), h2]
  · intro b' l h hl
    unfold Env.add at h
    by_cases e : b' = b
    · rw [if_pos e] at h; cases h
      intro hK; have h1 := (hW.keep _ hK).1; have h2 := hW.size; dsimp only at h1; omega
    · rw [if_neg e] at h; exact hW.sep _ _ h hl
/-- the abstract heap gets a block that is not there yet -/
theorem WR.early (hW : WR K w0 E s w) (x : AObj) : WR K w0 E (Ex.new s x) w := by
  have hne : ∀ b l, E b = some l → b ≠ s.nx := fun b l h e => by have := (hW.lt _ _ h).1; omega
  have hg : ∀ b l, E b = some l → (Ex.new s x).hp.get b = s.hp.get b := fun b l h => by
    simp only [Ex.new, Tr.get_set]; rw [if_neg (hne b l h)]
  refine ⟨fun b y l h1 h2 => hW.obj b y l (by rw [← hg b l h2]; exact h1) h2, fun b1 b2 l1 l2 x1 x2 e1 e2 g1 g2 => hW.inj b1 b2 l1 l2 x1 x2 e1 e2 (by rw [← hg b1 l1 e1]; exact g1) (by rw [← hg b2 l2 e2]; exact g2), fun b l h => ?_, hW.keep, hW.sep, hW.size, ?_, hW.tape, hW.os, hW.output⟩
  · obtain ⟨h1, h2⟩ := hW.lt b l h; exact ⟨by simp [Ex.new]; omega, h2⟩
  · have := hW.lonx; simp [Ex.new]; omega
theorem Glob.mono {E E' : Env} (hE : Env.le E E') (h : Glob E G) : Glob E' G := fun g hg => let ⟨tot, h1⟩ := h g hg; ⟨tot, hE _ _ h1⟩
end
end Go.Ex
