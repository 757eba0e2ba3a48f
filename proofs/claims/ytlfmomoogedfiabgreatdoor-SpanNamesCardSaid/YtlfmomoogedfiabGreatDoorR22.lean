/- PROVED: one operation under the calculus. Conditions: those in each theorem's own words (the abstract state stands for the world). By an AI agent. -/
import Derived.Test.YtlfmomoogedfiabGreatDoorR21
namespace Go.Ex
/-- a call that hands back v -/
def RetR (K : Nat → Prop) (w0 : World) (E : Env) (s : St) (v : AV) (s' : St) (e : Ending) (w' : World) : Prop :=
  ∃ E' z, e = .returned z ∧ Grow s.nx E E' ∧ VR E' v z ∧ WR K w0 E' s' w' ∧ Fwd s s'
def PanR (K : Nat → Prop) (w0 : World) (E : Env) (s : St) (v : AV) (s' : St) (e : Ending) (w' : World) : Prop :=
  ∃ E' z, e = .panicked [{ v := z, recovered := false }] ∧ Grow s.nx E E' ∧ VR E' v z ∧ WR K w0 E' s' w' ∧ Fwd s s'
/-- how code ends, against the model -/
def CRP (K : Nat → Prop) (w0 : World) (E : Env) (s : St) : CR → Exit → Act → World → Prop
  | .no, _, _, _ => False
  | .norm a s', e, act, w => e = .normal ∧ ∃ E', Grow s.nx E E' ∧ AR E' noX a act ∧ WR K w0 E' s' w ∧ Fwd s s'
  | .exit id a s', e, act, w => e = .exit id ∧ ∃ E', Grow s.nx E E' ∧ AR E' noX a act ∧ WR K w0 E' s' w ∧ Fwd s s'
  | .ret a s', e, act, w => e = .ret ∧ ∃ E', Grow s.nx E E' ∧ AR E' noX a act ∧ WR K w0 E' s' w ∧ Fwd s s'
  | .pan v a s', e, act, w => ∃ E' z, e = .panic [{ v := z, recovered := false }] ∧ VR E' v z ∧ Grow s.nx E E' ∧ AR E' noX a act ∧ WR K w0 E' s' w ∧ Fwd s s'
def MemoOK (K : Nat → Prop) (w0 : World) (P : Program) (G : Nat) (memo : FuncId → List AV → St → Option (AV × St)) : Prop :=
  ∀ f args s v s', memo f args s = some (v, s') → ∀ E w vs, WR K w0 E s w → Glob E G → VRs E args vs → Calls P f ⟨vs⟩ w (RetR K w0 E s v s')
/-- the mode of a frame that is left -/
def MR (E : Env) (u : AMode) (m : FrameMode) : Prop :=
  match u with
  | .ret => m = .returning
  | .pan v r => ∃ z, m = .panicking [{ v := z, recovered := r }] ∧ VR E v z
structure RecOK (K : Nat → Prop) (w0 : World) (P : Program) (G : Nat) (rec : Task → Out) : Prop where
  call : ∀ f args s v u s', rec (.call f args s) = .ret v u s' → ∀ E w vs, WR K w0 E s w → Glob E G → VRs E args vs → Calls P f ⟨vs⟩ w (RetR K w0 E s v s')
  pan : ∀ f args s v s', rec (.call f args s) = .pan v s' → ∀ E w vs, WR K w0 E s w → Glob E G → VRs E args vs → Calls P f ⟨vs⟩ w (PanR K w0 E s v s')
  loop : ∀ b a s c, rec (.loop b a s) = .code c → c ≠ .no → ∀ E w act, WR K w0 E s w → Glob E G → AR E noX a act → (Code.loop b).wp P (CRP K w0 E s c) act w
  dcall : ∀ f args u s v u' s', rec (.dcall f args u s) = .ret v u' s' → ∀ E w vs m, WR K w0 E s w → Glob E G → VRs E args vs → MR E u m →
    CallsD P f ⟨vs⟩ m w (fun e m' w' => ∃ E' z, e = .returned z ∧ Grow s.nx E E' ∧ VR E' v z ∧ WR K w0 E' s' w' ∧ Fwd s s' ∧ MR E' u' m')
section
variable {K : Nat → Prop} {w0 : World} {E : Env} {s : St} {w : World} {P : Program} {G : Nat} {ext : FuncId → Option Ext} {X : Nat → Bool} {a : AAct} {act : Act}
variable {memo : FuncId → List AV → St → Option (AV × St)} {rec : Task → Out}

theorem srput_ok {a a' : AAct} {dst : Option Tmp} {v : AV} {s s' : St} (h : SR.put a dst v s = .ok a' s') : a.put dst v = some a' ∧ s' = s := by
  unfold SR.put at h
  split at h
  · rename_i a2 ha; cases h; exact ⟨ha, rfl⟩
  · cases h
theorem srput_pan {a : AAct} {dst : Option Tmp} {v v' : AV} {s s' : St} (h : SR.put a dst v s = .pan v' s') : False := by
  unfold SR.put at h
  split at h <;> cases h
/-- what a step does to the abstract activation -/
theorem stepH_tm {a a' : AAct} {s s' : St} {dst : Option Tmp} {h : Option HR} (hh : stepH memo rec a s dst h = .ok a' s') :
    a'.nt = a.nt ∧ (∀ t, dst ≠ some t → a'.tm.get t = a.tm.get t) := by
  have pp : ∀ {a2 : AAct} {v : AV}, a2.put dst v = some a' → a2.nt = a.nt → a2.tm = a.tm → a'.nt = a.nt ∧ (∀ t, dst ≠ some t → a'.tm.get t = a.tm.get t) := by
    intro a2 v hp h1 h2
    obtain ⟨p1, _, p3, _⟩ := put_some hp
    refine ⟨by rw [p1, h1], fun t ht => ?_⟩
    rw [p3, if_neg ht, h2]
  unfold stepH at hh
  split at hh
  · exact pp (srput_ok hh).1 rfl rfl
  · exact pp (srput_ok hh).1 rfl rfl
  · unfold stepC at hh
    split at hh
    · exact pp (srput_ok hh).1 rfl rfl
    · split at hh
      · exact pp (srput_ok hh).1 rfl rfl
      · cases hh
      · cases hh
  · exact pp (srput_ok hh).1 rfl rfl
  · cases hh
  · cases hh
theorem LetsOut.no {Q : Exit → Act → World → Prop} (h : True) : True := h
/-- a heavy operation, in the model's own steps -/
theorem heavy_wp (hX : ExtOK P ext) (hM : MemoOK K w0 P G memo) (hR : RecOK K w0 P G rec) (hW : WR K w0 E s w) (hG : Glob E G) (hA : AR E X a act) {ops : Array Oper} {o : Oper} (hs : Seen X (o.looksAt ops))
    {r : SR} (h : stepH memo rec a s o.dst (execH P G ext a.tm s o.op) = r)
    {next : Act → World → Prop} {Q : Exit → Act → World → Prop}
    (k : ∀ a' s', r = .ok a' s' → ∀ E' act' w', Grow s.nx E E' → AR E' X a' act' → WR K w0 E' s' w' → Fwd s s' → next act' w')
    (kp : ∀ v s', r = .pan v s' → ∀ E' z w', Grow s.nx E E' → VR E' v z → WR K w0 E' s' w' → Fwd s s' → Q (.panic [{ v := z, recovered := false }]) act w')
    (hno : r ≠ .no) : o.wp P act w next Q := by
  have hXX : ∀ t, X t = false → X t = false ∨ o.dst = some t := fun t ht => .inl ht
  cases he : execH P G ext a.tm s o.op with
  | none => rw [he] at h; exact absurd h.symm hno
  | some hr =>
    have hrun := heavy_run hX hW hG hA hs he
    rw [he] at h
    unfold Oper.wp
    cases hr with
    | val v s' =>
      obtain ⟨E', z, w', h1, h2, h3, h4, h5⟩ := hrun
      rw [h1, Oper.upon_value]
      simp only [stepH] at h
      cases r with
      | no => exact absurd rfl hno
      | pan v' s2 => exact (srput_pan h).elim
      | ok a' s2 =>
        obtain ⟨p1, rfl⟩ := srput_ok h
        exact k _ _ rfl E' _ w' h2 (hA.put h2.le p1 h3 hXX) h4 h5
    | skip s' =>
      obtain ⟨w', h1, h4, h5⟩ := hrun
      rw [h1, Oper.upon_skip]
      simp only [stepH] at h
      cases r with
      | no => exact absurd rfl hno
      | pan v' s2 => exact (srput_pan h).elim
      | ok a' s2 =>
        obtain ⟨p1, rfl⟩ := srput_ok h
        exact k _ _ rfl E _ w' (Grow.refl _ E) (hA.put (Env.le_refl E) p1 (.tuple _ _ .nil) hXX) h4 h5
    | enter f args =>
      obtain ⟨args', h1, h2⟩ := hrun
      rw [h1, Oper.upon_enter]
      simp only [stepH, stepC] at h
      have fin : ∀ v s', SR.put a o.dst v s' = r → Calls P f ⟨args'⟩ w (RetR K w0 E s v s') → Calls P f ⟨args'⟩ w fun
          | .returned v, w'' => next (act.put o.dst v) w''
          | .panicked chain, w'' => Q (.panic chain) act w''
          | .outgrown, _ => LetsOut Q := by
        intro v s' hput hc
        refine hc.mono fun e w'' he => ?_
        obtain ⟨E', z, rfl, g1, g2, g3, g4⟩ := he
        cases r with
        | no => exact absurd rfl hno
        | pan v' s2 => exact (srput_pan hput).elim
        | ok a' s2 =>
          obtain ⟨p1, rfl⟩ := srput_ok hput
          exact k _ _ rfl E' _ w'' g1 (hA.put g1.le p1 g2 hXX) g3 g4
      split at h
      · rename_i v s' hm
        exact fin v s' h (hM f args s v s' hm E w args' hW hG h2)
      · split at h
        · rename_i v u s' hc
          exact fin v s' h (hR.call f args s v u s' hc E w args' hW hG h2)
        · rename_i v s' hc
          subst h
          refine (hR.pan f args s v s' hc E w args' hW hG h2).mono fun e w'' he => ?_
          obtain ⟨E', z, rfl, g1, g2, g3, g4⟩ := he
          exact kp v s' rfl E' z w'' g1 g2 g3 g4
        · exact absurd h.symm hno
    | «defer» d =>
      obtain ⟨d', h1, h2⟩ := hrun
      rw [h1, Oper.upon_defer]
      simp only [stepH] at h
      cases r with
      | no => exact absurd rfl hno
      | pan v' s2 => exact (srput_pan h).elim
      | ok a' s2 =>
        obtain ⟨p1, rfl⟩ := srput_ok h
        have hA' : AR E X { a with df := d :: a.df } { act with defers := d' :: act.defers } := ⟨hA.tm, hA.nt, .cons _ _ _ _ h2 hA.df⟩
        exact k _ _ rfl E _ w (Grow.refl _ E) (hA'.put (Env.le_refl E) p1 (.tuple _ _ .nil) hXX) hW (Fwd.refl _)
    | recover => exact absurd h.symm hno
    | pan v =>
      obtain ⟨z, h1, h2, _⟩ := hrun
      rw [h1, Oper.upon_panic]
      simp only [stepH] at h
      subst h
      exact kp v s rfl E z w (Grow.refl _ E) h2 hW (Fwd.refl _)
/-- any operation, with nothing left out -/
theorem op_wp (hX : ExtOK P ext) (hM : MemoOK K w0 P G memo) (hR : RecOK K w0 P G rec) (hW : WR K w0 E s w) (hG : Glob E G) (hA : AR E noX a act) {ops : Array Oper} {o : Oper}
    {r : SR} (h : stepOp P G ext memo rec a s o = r)
    {next : Act → World → Prop} {Q : Exit → Act → World → Prop}
    (k : ∀ a' s', r = .ok a' s' → ∀ E' act' w', Grow s.nx E E' → AR E' noX a' act' → WR K w0 E' s' w' → Fwd s s' → next act' w')
    (kp : ∀ v s', r = .pan v s' → ∀ E' z w', Grow s.nx E E' → VR E' v z → WR K w0 E' s' w' → Fwd s s' → Q (.panic [{ v := z, recovered := false }]) act w')
    (hno : r ≠ .no) : o.wp P act w next Q := by
  have hs : Seen noX (o.looksAt ops) := fun t _ => rfl
  unfold stepOp at h
  split at h
  · unfold stepL at h
    split at h
    · rename_i v hv
      refine light_wp hW hG hA hs hv fun z hz => ?_
      cases r with
      | no => exact absurd rfl hno
      | pan v' s2 => exact (srput_pan h).elim
      | ok a' s2 =>
        obtain ⟨p1, rfl⟩ := srput_ok h
        exact k _ _ rfl E _ w (Grow.refl _ E) (hA.put (Env.le_refl E) p1 hz fun t ht => .inl ht) hW (Fwd.refl _)
    · exact absurd h.symm hno
  · unfold stepN at h
    split at h
    · rename_i x y hv
      refine alloc_wp hW hG hA hs hv fun z w' ob n d hb => ?_
      cases r with
      | no => exact absurd rfl hno
      | pan v' s2 => exact (srput_pan h).elim
      | ok a' s2 =>
        obtain ⟨p1, rfl⟩ := srput_ok h
        have hb1 := hb.world
        subst hb1
        exact k _ _ rfl (E.add s.nx ⟨w.heap.size, 0, n⟩) _ _ (Grow.add hW.freshE)
          (hA.put (Env.le_add hW.freshE) p1 (hb.val _ _ (Env.le_add hW.freshE) (Env.add_same _ _ _)) fun t ht => .inl ht) (hW.new hb.obj) (Fwd.new _ _)
    · exact absurd h.symm hno
  · exact heavy_wp hX hM hR hW hG hA hs h k kp hno
end
end Go.Ex
