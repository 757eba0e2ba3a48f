/- PROVED: comparisons with the guard on nil interfaces. Conditions: those in each theorem's own words (the abstract state stands for the world). By an AI agent. -/
import Derived.Test.YtlfmomoogedfiabGreatDoorR5
namespace Go.Ex
section
variable {K : Nat → Prop} {w0 : World} {E : Env} {s : St} {w : World} {P : Program} {G : Nat} {tm : Tr AV} {ρ : Operand → Value}

/-! ### Operators -/
theorem eqGuard_other {op : BinOp} {t : TypeId} {x y : Operand} {u v : Value} (h1 : ¬ (u = .nilIface ∧ v = .nilIface)) (h2 : ∀ a b, u = .agg a → v = .agg b → P.eqGuardType P.depth t = false) :
    (eqGuard op t x y u v).run P w = .ok () w := by
  cases op <;> first | rfl | skip
  all_goals
    simp only [eqGuard, Bool.not_true, Bool.false_eq_true, if_false]
    split
    · exact absurd ⟨rfl, rfl⟩ h1
    · simp [h2 _ _ rfl rfl]
    · rfl
theorem eqGuard_const {op : BinOp} {t : TypeId} {x y : Operand} (h : (isConst x || isConst y) = true) :
    (eqGuard op t x y .nilIface .nilIface).run P w = .ok () w := by
  cases op <;> first | rfl | skip
  all_goals
    simp only [eqGuard, Bool.not_true, Bool.false_eq_true, if_false]
    cases x <;> cases y <;> simp_all [isConst]
theorem nilIface_iff {x : AV} {u : Value} (h : VR E x u) : u = .nilIface ↔ x = .nilIface := by
  cases h <;> simp [emptyAt]
theorem agg_of {x : AV} {a : Array Value} (h : VR E x (.agg a)) : ∃ c, x = .agg c := by
  generalize hu : Value.agg a = u at h
  cases h <;> first | (cases hu; done) | exact ⟨_, rfl⟩ | (unfold emptyAt at hu; cases hu)
theorem mayEq_guard {op : BinOp} {t : TypeId} {x y : AV} {u v : Value} {p q : Operand} (h : mayEq P t x y = true) (hx : VR E x u) (hy : VR E y v) :
    (eqGuard op t p q u v).run P w = .ok () w := by
  refine eqGuard_other ?_ ?_
  · rintro ⟨h1, h2⟩
    rw [(nilIface_iff hx).1 h1, (nilIface_iff hy).1 h2] at h
    simp [mayEq] at h
  · intro a b h1 h2
    subst h1; subst h2
    obtain ⟨c, rfl⟩ := agg_of hx
    obtain ⟨d, rfl⟩ := agg_of hy
    simpa [mayEq] using h
theorem eqBin_ok {op : BinOp} {t : TypeId} {x y : AV} {u v : Value} {r : AV} {p q : Operand} (h : eqBin P op t x y = some r) (hx : VR E x u) (hy : VR E y v)
    (hi : ∀ k n, x ≠ .int k n) (hs : ∀ l, x ≠ .str l) :
    ∃ z, (do eqGuard op t p q u v; binOp op t u v : Sem Value).run P w = .ok z w ∧ VR E r z := by
  have key : ∀ b, eqA P 200 t x y = some b → (Op.equal t u v).run P w = .ok b w := fun b hb => eqA_ok hb hx hy (by simp [Op.maxDepth])
  cases op <;> simp only [eqBin] at h <;> (try (simp at h; done))
  · cases hm : mayEq P t x y with
    | false => simp [hm] at h
    | true =>
      simp only [hm, cond_true] at h
      cases he : eqA P 200 t x y with
      | none => simp [he] at h
      | some b =>
        simp [he] at h; subst h
        refine ⟨.bool b, ?_, .bool _⟩
        rw [Sem.run_bind, mayEq_guard hm hx hy, Result.andThen_ok]
        have := key b he
        cases hx <;> first | exact absurd rfl (hi _ _) | exact absurd rfl (hs _) | (simp only [binOp, emptyAt] at *; simp [this])
  · cases hm : mayEq P t x y with
    | false => simp [hm] at h
    | true =>
      simp only [hm, cond_true] at h
      cases he : eqA P 200 t x y with
      | none => simp [he] at h
      | some b =>
        simp [he] at h; subst h
        refine ⟨.bool (!b), ?_, .bool _⟩
        rw [Sem.run_bind, mayEq_guard hm hx hy, Result.andThen_ok]
        have := key b he
        cases hx <;> first | exact absurd rfl (hi _ _) | exact absurd rfl (hs _) | (simp only [binOp, emptyAt] at *; simp [this])
theorem binA_ok {op : BinOp} {t : TypeId} {x y : AV} {u v : Value} {r : AV} {p q : Operand} (h : binA P op t x y = some r) (hx : VR E x u) (hy : VR E y v) :
    ∃ z, (do eqGuard op t p q u v; binOp op t u v : Sem Value).run P w = .ok z w ∧ VR E r z := by
  unfold binA at h
  split at h
  · cases hx
    split at h
    · cases hy
      obtain ⟨z, h1, h2⟩ := intBin_ok (P := P) (w := w) (E := E) (t := t) h
      exact ⟨z, by rw [Sem.run_bind, eqGuard_other (by simp) (by simp), Result.andThen_ok, h1], h2⟩
    · simp at h
  · cases hx with | str s1 _ e1 =>
    split at h
    · cases hy with | str s2 _ e2 =>
      subst e1; subst e2
      obtain ⟨z, h1, h2⟩ := strOp_ok (P := P) (w := w) (E := E) (t := t) h
      exact ⟨z, by rw [Sem.run_bind, eqGuard_other (by simp) (by simp), Result.andThen_ok, h1], h2⟩
    · simp at h
  · rename_i h1 h2
    exact eqBin_ok h hx hy h1 h2
theorem lBin_ok (hρ : OpR E G tm ρ) {op : BinOp} {t : TypeId} {x y : Operand} {r : AV} (h : lBin P G tm op t x y = some r) :
    ∃ z, (do eqGuard op t x y (ρ x) (ρ y); binOp op t (ρ x) (ρ y) : Sem Value).run P w = .ok z w ∧ VR E r z := by
  unfold lBin at h
  split at h
  · rename_i a ha
    split at h
    · rename_i b hb
      have hx := hρ _ _ ha
      have hy := hρ _ _ hb
      unfold binX at h
      split at h
      · split at h
        · have e1 := (nilIface_iff hx).2 rfl
          have e2 := (nilIface_iff hy).2 rfl
          rw [e1, e2]
          unfold binNN at h
          cases hc : (isConst x || isConst y) with
          | false => simp [hc] at h
          | true =>
            simp only [hc, cond_true] at h
            split at h
            · rename_i he
              have := eqA_ok (P := P) (w := w) (E := E) (D := Op.maxDepth) he .nili .nili (by simp [Op.maxDepth])
              cases op <;> simp at h <;> subst h
              · exact ⟨.bool true, by rw [Sem.run_bind, eqGuard_const hc, Result.andThen_ok]; simp [binOp, Op.equal, this], .bool _⟩
              · exact ⟨.bool false, by rw [Sem.run_bind, eqGuard_const hc, Result.andThen_ok]; simp [binOp, Op.equal, this], .bool _⟩
            · simp at h
        · exact binA_ok h hx hy
      · exact binA_ok h hx hy
    · simp at h
  · simp at h
end
end Go.Ex
