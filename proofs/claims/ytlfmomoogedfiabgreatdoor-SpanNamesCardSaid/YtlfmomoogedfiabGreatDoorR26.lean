/- PROVED: code ends as foretold. Conditions: those in each theorem's own words (the abstract state stands for the world). By an AI agent. -/
import Derived.Test.YtlfmomoogedfiabGreatDoorR25
namespace Go.Ex
section
variable {K : Nat → Prop} {w0 : World} {P : Program} {G : Nat} {ext : FuncId → Option Ext} {ops : Array Oper}
variable {memo : FuncId → List AV → St → Option (AV × St)} {rec : Task → Out}
variable {E E' : Env} {a : AAct} {s s' : St} {act : Act} {w : World}

theorem CRP.trans {r : CR} {e : Exit} (hg : Grow s.nx E E') (hf : Fwd s s') (h : CRP K w0 E' s' r e act w) : CRP K w0 E s r e act w := by
  cases r with
  | no => exact h
  | norm a s2 => obtain ⟨h1, E2, h2, h3, h4, h5⟩ := h; exact ⟨h1, E2, hg.trans h2 hf.nx, h3, h4, hf.trans h5⟩
  | exit id a s2 => obtain ⟨h1, E2, h2, h3, h4, h5⟩ := h; exact ⟨h1, E2, hg.trans h2 hf.nx, h3, h4, hf.trans h5⟩
  | ret a s2 => obtain ⟨h1, E2, h2, h3, h4, h5⟩ := h; exact ⟨h1, E2, hg.trans h2 hf.nx, h3, h4, hf.trans h5⟩
  | pan v a s2 => obtain ⟨E2, z, h1, h2, h3, h4, h5, h6⟩ := h; exact ⟨E2, z, h1, h2, hg.trans h3 hf.nx, h4, h5, hf.trans h6⟩

theorem upon_mono {o : Oper} {act : Act} {N N' : Act → World → Prop} {Q Q' : Exit → Act → World → Prop} (hn : ∀ a w, N a w → N' a w) (hq : ∀ e a w, Q e a w → Q' e a w) {r : Result Next} (h : o.upon P act N Q r) : o.upon P act N' Q' r := by
  cases r with
  | ok n w' =>
    cases n <;> simp only [Oper.upon] at h ⊢ <;>
      first
        | exact hn _ _ h
        | exact Calls.mono h (fun e w'' he => by
            cases e with
            | returned v => exact hn _ _ he
            | panicked c => exact hq _ _ _ he
            | outgrown => obtain ⟨a, w, he⟩ := he; exact ⟨a, w, hq _ _ _ he⟩)
        | exact Rows.mono h (fun _ _ he => hn _ _ he)
        | exact h
  | halt x w' => cases x <;> simp only [Oper.upon] at h ⊢ <;> first | exact hq _ _ _ h | exact h
theorem wpOps_mono {Q Q' : Exit → Act → World → Prop} (hq : ∀ e a w, Q e a w → Q' e a w) : ∀ {l : List Nat} {act : Act} {w : World}, wpOps P ops Q l act w → wpOps P ops Q' l act w := by
  intro l
  induction l with
  | nil => intro act w h; exact hq _ _ _ h
  | cons i l ih =>
    intro act w h
    rw [wpOps_cons] at h ⊢
    unfold wpOp at h ⊢
    split
    · rename_i ho; rw [ho] at h; exact ih h
    · rename_i o ho
      rw [ho] at h
      simp only at h
      split
      · rename_i hw
        rw [if_pos hw] at h
        rcases h with h | ⟨h, a, w, h2⟩
        · exact .inl (upon_mono (fun a w => ih) hq h)
        · exact .inr ⟨h, a, w, hq _ _ _ h2⟩
      · rename_i hw
        rw [if_neg hw] at h
        exact ih h
/-! ### A region in the order of its list -/
theorem doOps_ok (hX : ExtOK P ext) (hM : MemoOK K w0 P G memo) (hR : RecOK K w0 P G rec) : ∀ (l : List Oper) (k : Nat) {E : Env} {a : AAct} {s : St} {act : Act} {w : World} {r : CR},
    (∀ j o, l[j]? = some o → ops[k + j]? = some o) → doOps P G ext memo rec ops l a s = r → r ≠ .no → WR K w0 E s w → Glob E G → AR E noX a act →
    wpOps P ops (CRP K w0 E s r) (List.range' k l.length) act w := by
  intro l
  induction l with
  | nil =>
    intro k E a s act w r hl hdo hno hW hG hA
    simp only [doOps] at hdo
    subst hdo
    exact ⟨rfl, E, Grow.refl _ _, hA, hW, Fwd.refl _⟩
  | cons o l ih =>
    intro k E a s act w r hl hdo hno hW hG hA
    have hs : Seen noX (o.looksAt ops) := fun t _ => rfl
    have hl' : ∀ j o, l[j]? = some o → ops[k + 1 + j]? = some o := fun j o' ho => by
      rw [show k + 1 + j = k + (j + 1) by omega]; exact hl (j + 1) o' (by simpa using ho)
    have ho : ops[k]? = some o := by simpa using hl 0 o rfl
    have mono : ∀ {E2 : Env} {s2 : St} {act2 : Act} {w2 : World}, Grow s.nx E E2 → Fwd s s2 → wpOps P ops (CRP K w0 E2 s2 r) (List.range' (k + 1) l.length) act2 w2 → wpOps P ops (CRP K w0 E s r) (List.range' (k + 1) l.length) act2 w2 := by
      intro E2 s2 act2 w2 hg hf h
      exact wpOps_mono (fun e a w q => CRP.trans hg hf q) h
    rw [List.length_cons, List.range'_succ, wpOps_cons]
    unfold wpOp
    rw [ho]
    simp only
    simp only [doOps] at hdo
    cases hw : wantedA ops a.tm o with
    | none => rw [hw] at hdo; exact absurd hdo.symm hno
    | some wb =>
      rw [hw] at hdo
      rw [hA.wanted hs hw]
      cases wb with
      | false =>
        simp only at hdo
        rw [if_neg (by simp)]
        split at hdo
        · rename_i a' hput
          exact ih (k + 1) hl' hdo hno hW hG (hA.put (Env.le_refl E) hput (.tuple _ _ .nil) fun t ht => .inl ht)
        · exact absurd hdo.symm hno
      | true =>
        simp only at hdo
        rw [if_pos rfl]
        refine .inl ?_
        refine op_wp hX hM hR hW hG hA (ops := ops) (r := stepOp P G ext memo rec a s o) rfl (fun a' s' e E' act' w' g1 g2 g3 g4 => ?_) (fun v s' e E' z w' g1 g2 g3 g4 => ?_) ?_
        · rw [e] at hdo
          exact mono g1 g4 (ih (k + 1) hl' hdo hno g3 (hG.mono g1.le) g2)
        · rw [e] at hdo
          subst hdo
          exact ⟨E', z, rfl, g2, g1, hA.mono g1.le, g3, g4⟩
        · intro e; rw [e] at hdo; exact absurd hdo.symm hno
theorem region_plain (hX : ExtOK P ext) (hM : MemoOK K w0 P G memo) (hR : RecOK K w0 P G rec) {id : Nat} {r : CR} (hdo : doOps P G ext memo rec ops ops.toList a s = r) (hno : r ≠ .no)
    (hW : WR K w0 E s w) (hG : Glob E G) (hA : AR E noX a act) : (Code.region id ops false).wp P (CRP K w0 E s r) act w := by
  have := doOps_ok (ops := ops) hX hM hR ops.toList 0 (fun j o ho => by simpa using ho) hdo hno hW hG hA
  rw [← List.range_eq_range'] at this
  exact wp_region (by simpa using this)

/-! ### Code -/
theorem doCode_ok (hm : P.follows .mixedOrders = true) (hX : ExtOK P ext) (hM : MemoOK K w0 P G memo) (hR : RecOK K w0 P G rec) : ∀ (c : Code) {E : Env} {a : AAct} {s : St} {act : Act} {w : World} {r : CR},
    doCode P G ext memo rec c a s = r → r ≠ .no → WR K w0 E s w → Glob E G → AR E noX a act → c.wp P (CRP K w0 E s r) act w := by
  intro c
  induction c with
  | skip =>
    intro E a s act w r hdo hno hW hG hA
    simp only [doCode] at hdo
    subst hdo
    exact wp_skip ⟨rfl, E, Grow.refl _ _, hA, hW, Fwd.refl _⟩
  | region id ops draw =>
    intro E a s act w r hdo hno hW hG hA
    simp only [doCode] at hdo
    cases draw with
    | true =>
      simp only at hdo
      split at hdo
      · rename_i l hl
        exact region_drawn hm hX hM hR hl hdo hno hW hG hA
      · exact absurd hdo.symm hno
    | false => exact region_plain hX hM hR hdo hno hW hG hA
  | seq x y ihx ihy =>
    intro E a s act w r hdo hno hW hG hA
    simp only [doCode] at hdo
    refine wp_seq ?_
    have hx : doCode P G ext memo rec x a s ≠ .no := fun e => by rw [e] at hdo; exact hno hdo.symm
    refine wp_mono (ihx rfl hx hW hG hA) fun e act' w' hq => ?_
    cases hc : doCode P G ext memo rec x a s with
    | no => exact absurd hc hx
    | norm a' s' =>
      rw [hc] at hq hdo
      obtain ⟨rfl, E', g1, g2, g3, g4⟩ := hq
      exact wp_mono (ihy hdo hno g3 (hG.mono g1.le) g2) fun e a w q => CRP.trans g1 g4 q
    | exit id a' s' => rw [hc] at hq hdo; subst hdo; obtain ⟨rfl, h⟩ := hq; exact ⟨rfl, h⟩
    | ret a' s' => rw [hc] at hq hdo; subst hdo; obtain ⟨rfl, h⟩ := hq; exact ⟨rfl, h⟩
    | pan v a' s' => rw [hc] at hq hdo; subst hdo; obtain ⟨E', z, rfl, h⟩ := hq; exact ⟨E', z, rfl, h⟩
  | cond c x y ihx ihy =>
    intro E a s act w r hdo hno hW hG hA
    simp only [doCode] at hdo
    have hev : OpR E G a.tm act.eval := evA_ok hG fun t x hx => hA.tm t x hx rfl
    split at hdo
    · rename_i hc
      exact wp_cond_true (bool_inv (hev _ _ hc)) (ihx hdo hno hW hG hA)
    · rename_i hc
      exact wp_cond_false (bool_inv (hev _ _ hc)) (ihy hdo hno hW hG hA)
    · exact absurd hdo.symm hno
  | block id b ih =>
    intro E a s act w r hdo hno hW hG hA
    simp only [doCode] at hdo
    refine wp_block ?_
    have hx : doCode P G ext memo rec b a s ≠ .no := fun e => by rw [e] at hdo; exact hno hdo.symm
    refine wp_mono (ih rfl hx hW hG hA) fun e act' w' hq => ?_
    cases hc : doCode P G ext memo rec b a s with
    | no => exact absurd hc hx
    | norm a' s' => rw [hc] at hq hdo; subst hdo; obtain ⟨rfl, h⟩ := hq; exact ⟨rfl, h⟩
    | exit j a' s' =>
      rw [hc] at hq hdo
      obtain ⟨rfl, h⟩ := hq
      simp only [Exit.inBlock]
      simp only at hdo
      cases hj : Nat.beq j id with
      | true =>
        rw [hj] at hdo
        simp only [cond_true] at hdo
        rw [beq_iff] at hj
        subst hj
        subst hdo
        rw [if_pos rfl]
        exact ⟨rfl, h⟩
      | false =>
        rw [hj] at hdo
        simp only [cond_false] at hdo
        have hne : j ≠ id := fun q => by rw [(beq_iff _ _).2 q] at hj; cases hj
        subst hdo
        rw [if_neg hne]
        exact ⟨rfl, h⟩
    | ret a' s' => rw [hc] at hq hdo; subst hdo; obtain ⟨rfl, h⟩ := hq; exact ⟨rfl, h⟩
    | pan v a' s' => rw [hc] at hq hdo; subst hdo; obtain ⟨E', z, rfl, h⟩ := hq; exact ⟨E', z, rfl, h⟩
  | loop b ih =>
    intro E a s act w r hdo hno hW hG hA
    simp only [doCode] at hdo
    split at hdo
    · rename_i c hc
      subst hdo
      exact hR.loop b a s c hc hno E w act hW hG hA
    · exact absurd hdo.symm hno
  | exit id =>
    intro E a s act w r hdo hno hW hG hA
    simp only [doCode] at hdo
    subst hdo
    exact wp_exit ⟨rfl, E, Grow.refl _ _, hA, hW, Fwd.refl _⟩
  | ret =>
    intro E a s act w r hdo hno hW hG hA
    simp only [doCode] at hdo
    subst hdo
    exact wp_ret ⟨rfl, E, Grow.refl _ _, hA, hW, Fwd.refl _⟩
  | _ =>
    intro E a s act w r hdo hno hW hG hA
    simp only [doCode] at hdo
    exact absurd hdo.symm hno
end
end Go.Ex
