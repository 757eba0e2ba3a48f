/- PROVED: code of a deferred frame, recover let in. Conditions: those in each theorem's own words (the abstract state stands for the world). By an AI agent. -/
import Derived.Test.YtlfmomoogedfiabGreatDoorR26
namespace Go.Ex
/-- how a deferred function's code ends -/
def CRSP (K : Nat → Prop) (w0 : World) (E : Env) (s : St) (c0 : Frame) (cs : List Frame) : CRS → Exit → Act → List Frame → World → Prop
  | .no, _, _, _, _ => False
  | .norm a u s', e, act, cs', w => e = .normal ∧ ∃ E' m, cs' = { c0 with mode := m } :: cs ∧ MR E' u m ∧ Grow s.nx E E' ∧ AR E' noX a act ∧ WR K w0 E' s' w ∧ Fwd s s'
  | .ret a u s', e, act, cs', w => e = .ret ∧ ∃ E' m, cs' = { c0 with mode := m } :: cs ∧ MR E' u m ∧ Grow s.nx E E' ∧ AR E' noX a act ∧ WR K w0 E' s' w ∧ Fwd s s'
theorem MR.mono {E E' : Env} (hE : Env.le E E') {u : AMode} {m : FrameMode} (h : MR E u m) : MR E' u m := by
  cases u with
  | ret => exact h
  | pan v r => obtain ⟨z, h1, h2⟩ := h; exact ⟨z, h1, h2.mono hE⟩
section
variable {K : Nat → Prop} {w0 : World} {P : Program} {G : Nat} {ext : FuncId → Option Ext} {ops : Array Oper}
variable {memo : FuncId → List AV → St → Option (AV × St)} {rec : Task → Out}
variable {E E' : Env} {a : AAct} {s s' : St} {act : Act} {w : World} {c0 : Frame} {cs : List Frame}

theorem CRSP.trans {r : CRS} {e : Exit} {cs' : List Frame} {m : FrameMode} (hg : Grow s.nx E E') (hf : Fwd s s') (h : CRSP K w0 E' s' { c0 with mode := m } cs r e act cs' w) : CRSP K w0 E s c0 cs r e act cs' w := by
  cases r with
  | no => exact h
  | norm a u s2 => obtain ⟨h1, E2, m, h2, h3, h4, h5, h6, h7⟩ := h; exact ⟨h1, E2, m, h2, h3, hg.trans h4 hf.nx, h5, h6, hf.trans h7⟩
  | ret a u s2 => obtain ⟨h1, E2, m, h2, h3, h4, h5, h6, h7⟩ := h; exact ⟨h1, E2, m, h2, h3, hg.trans h4 hf.nx, h5, h6, hf.trans h7⟩
theorem CRSP.trans' {r : CRS} {e : Exit} {cs' : List Frame} (hg : Grow s.nx E E') (hf : Fwd s s') (h : CRSP K w0 E' s' c0 cs r e act cs' w) : CRSP K w0 E s c0 cs r e act cs' w := by
  cases r with
  | no => exact h
  | norm a u s2 => obtain ⟨h1, E2, m, h2, h3, h4, h5, h6, h7⟩ := h; exact ⟨h1, E2, m, h2, h3, hg.trans h4 hf.nx, h5, h6, hf.trans h7⟩
  | ret a u s2 => obtain ⟨h1, E2, m, h2, h3, h4, h5, h6, h7⟩ := h; exact ⟨h1, E2, m, h2, h3, hg.trans h4 hf.nx, h5, h6, hf.trans h7⟩
theorem wpS_mono {c : Code} {Q Q' : Exit → Act → List Frame → World → Prop} (h : c.wpS P Q act cs w) (hq : ∀ e a cs w, Q e a cs w → Q' e a cs w) : c.wpS P Q' act cs w :=
  fun b k hb hr => let ⟨e, a', cs', w', q, r⟩ := h b k hb hr; ⟨e, a', cs', w', hq _ _ _ _ q, r⟩
theorem wpOpsS_mono {Q Q' : Exit → Act → List Frame → World → Prop} (hq : ∀ e a cs w, Q e a cs w → Q' e a cs w) : ∀ {l : List Nat} {act : Act} {cs : List Frame} {w : World}, wpOpsS P ops Q l act cs w → wpOpsS P ops Q' l act cs w := by
  intro l
  induction l with
  | nil => intro act cs w h; exact hq _ _ _ _ h
  | cons i l ih =>
    intro act cs w h
    unfold wpOpsS at h ⊢
    split
    · rename_i ho; rw [ho] at h; exact ih h
    · rename_i o ho
      rw [ho] at h
      simp only at h
      split
      · rename_i hw
        rw [if_pos hw] at h
        split
        · rename_i w' hr
          rw [hr] at h
          simp only at h
          split
          · rename_i v cs' hc; rw [hc] at h; exact ih h
          · rename_i hc; rw [hc] at h; exact ih h
        · rename_i hr
          have h' : o.upon P act (fun a' w' => wpOpsS P ops Q l a' cs w') (fun e a' w' => Q e a' cs w') ((execOp act.eval o).run P w) := by
            cases hrr : (execOp act.eval o).run P w with
            | ok n w' =>
              rw [hrr] at h
              cases n <;> first | exact h | exact absurd hrr (hr _)
            | halt x w' => rw [hrr] at h; exact h
          exact upon_mono (fun a w => ih) (fun e a w => hq e a cs w) h'
      · rename_i hw
        rw [if_neg hw] at h
        exact ih h
theorem isRecover {o : Oper} (h : (match o.op with | .call { callee := .builtin .recover, .. } => true | _ => false) = true) : ∃ as ts, o.op = .call ⟨.builtin .recover, as, ts⟩ := by
  split at h
  · rename_i as ts ho; exact ⟨_, _, ho⟩
  · cases h
theorem doOpsS_ok (hX : ExtOK P ext) (hM : MemoOK K w0 P G memo) (hR : RecOK K w0 P G rec) : ∀ (l : List Oper) (k : Nat) {E : Env} {a : AAct} {u : AMode} {m : FrameMode} {s : St} {act : Act} {w : World} {r : CRS},
    (∀ j o, l[j]? = some o → ops[k + j]? = some o) → doOpsS P G ext memo rec ops l a u s = r → r ≠ .no → WR K w0 E s w → Glob E G → AR E noX a act → MR E u m →
    wpOpsS P ops (CRSP K w0 E s c0 cs r) (List.range' k l.length) act ({ c0 with mode := m } :: cs) w := by
  intro l
  induction l with
  | nil =>
    intro k E a u m s act w r hl hdo hno hW hG hA hU
    simp only [doOpsS] at hdo
    subst hdo
    exact ⟨rfl, E, m, rfl, hU, Grow.refl _ _, hA, hW, Fwd.refl _⟩
  | cons o l ih =>
    intro k E a u m s act w r hl hdo hno hW hG hA hU
    have hs : Seen noX (o.looksAt ops) := fun t _ => rfl
    have hl' : ∀ j o, l[j]? = some o → ops[k + 1 + j]? = some o := fun j o' ho => by
      rw [show k + 1 + j = k + (j + 1) by omega]; exact hl (j + 1) o' (by simpa using ho)
    have ho : ops[k]? = some o := by simpa using hl 0 o rfl
    rw [List.length_cons, List.range'_succ]
    unfold wpOpsS
    rw [ho]
    simp only
    simp only [doOpsS] at hdo
    cases hw : wantedA ops a.tm o with
    | none => rw [hw] at hdo; exact absurd hdo.symm hno
    | some wb =>
      rw [hw] at hdo
      rw [hA.wanted hs hw]
      cases wb with
      | false =>
        simp only at hdo
        rw [if_neg (by simp)]
        split at hdo
        · rename_i a' hput
          exact ih (k + 1) hl' hdo hno hW hG (hA.put (Env.le_refl E) hput (.tuple _ _ .nil) fun t ht => .inl ht) hU
        · exact absurd hdo.symm hno
      | true =>
        simp only at hdo
        rw [if_pos rfl]
        split at hdo
        · rename_i hrec
          obtain ⟨as, ts, hop⟩ := isRecover hrec
          have hrun : (execOp act.eval o).run P w = .ok .recover w := by
            have := execH_ok (r := .recover) hX hW (evA_ok hG fun t x hx => hA.tm t x hx rfl : OpR E G a.tm act.eval) (o := o) (by rw [hop]; rfl)
            exact this
          rw [hrun]
          simp only
          have other : ∀ {a' : AAct}, a.put o.dst .nilIface = some a' → doOpsS P G ext memo rec ops l a' u s = r → recoverD ({ c0 with mode := m } :: cs) = none →
              (match recoverD ({ c0 with mode := m } :: cs) with
              | some (v, cs') => wpOpsS P ops (CRSP K w0 E s c0 cs r) (List.range' (k + 1) l.length) (act.put o.dst v) cs' w
              | none => wpOpsS P ops (CRSP K w0 E s c0 cs r) (List.range' (k + 1) l.length) (act.put o.dst .nilIface) ({ c0 with mode := m } :: cs) w) := by
            intro a' hput hd hc
            rw [hc]
            exact ih (k + 1) hl' hd hno hW hG (hA.put (Env.le_refl E) hput .nili fun t ht => .inl ht) hU
          cases u with
          | ret =>
            simp only at hdo
            split at hdo
            · rename_i a' hput
              have hU' : m = .returning := hU
              exact other hput hdo (by rw [hU']; rfl)
            · exact absurd hdo.symm hno
          | pan v rc =>
            obtain ⟨z, rfl, hz⟩ := hU
            cases rc with
            | true =>
              simp only at hdo
              split at hdo
              · rename_i a' hput
                exact other hput hdo rfl
              · exact absurd hdo.symm hno
            | false =>
              simp only at hdo
              split at hdo
              · rename_i a' hput
                exact ih (k + 1) hl' hdo hno hW hG (hA.put (Env.le_refl E) hput hz fun t ht => .inl ht) ⟨z, rfl, hz⟩
              · exact absurd hdo.symm hno
        · rename_i hrec
          split at hdo
          · rename_i a' s' hstep
            have hup := op_wp (Q := fun e a' w' => CRSP K w0 E s c0 cs r e a' ({ c0 with mode := m } :: cs) w') (next := fun a' w' => wpOpsS P ops (CRSP K w0 E s c0 cs r) (List.range' (k + 1) l.length) a' ({ c0 with mode := m } :: cs) w')
              hX hM hR hW hG hA (ops := ops) hstep (fun a2 s2 e E' act' w' g1 g2 g3 g4 => by
                cases e
                exact wpOpsS_mono (fun e a cs w q => CRSP.trans' g1 g4 q) (ih (k + 1) hl' hdo hno g3 (hG.mono g1.le) g2 (hU.mono g1.le))) (fun v s2 e => by cases e) (by simp)
            unfold Oper.wp at hup
            split
            · rename_i w' hr
              rw [hr] at hup
              exact hup.elim
            · exact hup
          · exact absurd hdo.symm hno
def liftS (u : AMode) : CR → CRS
  | .norm a' s' => .norm a' u s'
  | .ret a' s' => .ret a' u s'
  | _ => .no
theorem doCodeS_ok (hm : P.follows .mixedOrders = true) (hX : ExtOK P ext) (hM : MemoOK K w0 P G memo) (hR : RecOK K w0 P G rec) : ∀ (c : Code) {E : Env} {a : AAct} {u : AMode} {m : FrameMode} {s : St} {act : Act} {w : World} {r : CRS},
    doCodeS P G ext memo rec c a u s = r → r ≠ .no → WR K w0 E s w → Glob E G → AR E noX a act → MR E u m → c.wpS P (CRSP K w0 E s c0 cs r) act ({ c0 with mode := m } :: cs) w := by
  have gen : ∀ (c : Code) {E : Env} {a : AAct} {u : AMode} {m : FrameMode} {s : St} {act : Act} {w : World} {r : CRS},
      liftS u (doCode P G ext memo rec c a s) = r → r ≠ .no → WR K w0 E s w → Glob E G → AR E noX a act → MR E u m → c.wpS P (CRSP K w0 E s c0 cs r) act ({ c0 with mode := m } :: cs) w := by
    intro c E a u m s act w r hdo hno hW hG hA hU
    refine wpS_of_wp ?_
    have hx : doCode P G ext memo rec c a s ≠ .no := fun e => by rw [e] at hdo; exact hno hdo.symm
    refine wp_mono (doCode_ok hm hX hM hR c rfl hx hW hG hA) fun e act' w' hq => ?_
    cases hc : doCode P G ext memo rec c a s with
    | no => exact absurd hc hx
    | norm a' s' =>
      rw [hc] at hq hdo
      subst hdo
      obtain ⟨rfl, E', g1, g2, g3, g4⟩ := hq
      exact ⟨rfl, E', m, rfl, hU.mono g1.le, g1, g2, g3, g4⟩
    | exit id a' s' => rw [hc] at hdo; exact absurd hdo.symm hno
    | ret a' s' =>
      rw [hc] at hq hdo
      subst hdo
      obtain ⟨rfl, E', g1, g2, g3, g4⟩ := hq
      exact ⟨rfl, E', m, rfl, hU.mono g1.le, g1, g2, g3, g4⟩
    | pan v a' s' => rw [hc] at hdo; exact absurd hdo.symm hno
  intro c
  induction c with
  | region id ops draw =>
    cases draw with
    | true =>
      intro E a u m s act w r hdo
      refine gen _ ?_
      rw [← hdo]
      simp only [doCodeS]
      cases doCode P G ext memo rec (.region id ops true) a s <;> rfl
    | false =>
      intro E a u m s act w r hdo hno hW hG hA hU
      simp only [doCodeS] at hdo
      have := doOpsS_ok (ops := ops) (c0 := c0) (cs := cs) hX hM hR ops.toList 0 (fun j o ho => by simpa using ho) hdo hno hW hG hA hU
      rw [← List.range_eq_range'] at this
      exact wpS_region (by simpa using this)
  | seq x y ihx ihy =>
    intro E a u m s act w r hdo hno hW hG hA hU
    simp only [doCodeS] at hdo
    refine wpS_seq ?_
    have hx : doCodeS P G ext memo rec x a u s ≠ .no := fun e => by rw [e] at hdo; exact hno hdo.symm
    refine wpS_mono (ihx rfl hx hW hG hA hU) fun e act' cs' w' hq => ?_
    cases hc : doCodeS P G ext memo rec x a u s with
    | no => exact absurd hc hx
    | norm a' u' s' =>
      rw [hc] at hq hdo
      obtain ⟨rfl, E', m', rfl, g0, g1, g2, g3, g4⟩ := hq
      exact wpS_mono (ihy hdo hno g3 (hG.mono g1.le) g2 g0) fun e a cs w q => CRSP.trans' g1 g4 q
    | ret a' u' s' => rw [hc] at hq hdo; subst hdo; obtain ⟨rfl, h⟩ := hq; exact ⟨rfl, h⟩
  | _ =>
    intro E a u m s act w r hdo
    refine gen _ ?_
    rw [← hdo]
    simp only [doCodeS]
    generalize doCode P G ext memo rec _ a s = q
    cases q <;> rfl
end
end Go.Ex
