/- PROVED: storing and new blocks, in the relation. Conditions: those in each theorem's own words (the abstract state stands for the world). By an AI agent. -/
import Derived.Test.YtlfmomoogedfiabGreatDoorR2
namespace Go.Ex

/-- all but one block is as it was -/
structure SB (B : Nat) (w w' : World) : Prop where
  heap : ∀ k, k ≠ B → w'.heap[k]? = w.heap[k]?
  size : w'.heap.size = w.heap.size
  tape : w'.tape = w.tape
  os : w'.os = w.os
  output : w'.output = w.output
theorem SB.refl (B : Nat) (w : World) : SB B w w := ⟨fun _ _ => rfl, rfl, rfl, rfl, rfl⟩
theorem SB.trans {B : Nat} {a b c : World} (h : SB B a b) (k : SB B b c) : SB B a c :=
  ⟨fun i hi => (k.heap i hi).trans (h.heap i hi), k.size.trans h.size, k.tape.trans h.tape, k.os.trans h.os, k.output.trans h.output⟩

def oneCell : Value → Bool
  | .agg _ | .tuple _ => false
  | _ => true
theorem flat_one {E : Env} : ∀ {c : List AV} {vs : List Value}, flat c = true → VRs E c vs → ∀ v ∈ vs, v.oneCell' = true := by
  intro c
  induction c with
  | nil => intro vs _ h; cases h; intro v hv; cases hv
  | cons x c ih =>
    intro vs hf h
    cases h with
    | cons _ v _ vs h t =>
      intro u hu
      rcases List.mem_cons.1 hu with rfl | hu
      · cases h <;> first | rfl | (simp [flat] at hf; done) | (unfold emptyAt; rfl)
      · refine ih ?_ t u hu
        cases x <;> first | exact hf | (simp [flat] at hf; done)

section
variable {K : Nat → Prop} {w0 : World} {E : Env} {s : St} {w : World} {P : Program}

theorem heap_setCell_same {B o : Nat} {v : Value} {C : Array Value} {el : TypeId} {fz : Nat × Nat} (h : w.heap[B]? = some (.cells C el fz)) :
    (w.setCell ⟨B, o, none⟩ v).heap[B]? = some (.cells (C.setIfInBounds o v) el fz) := by
  simp only [World.setCell, Array.getElem?_modify, h]
  simp
theorem SB.setCell (B o : Nat) (v : Value) : SB B w (w.setCell ⟨B, o, none⟩ v) :=
  ⟨fun k hk => by simp only [World.setCell, Array.getElem?_modify]; rw [if_neg (Ne.symm hk)], by simp [World.setCell], rfl, rfl, rfl⟩
theorem unfrozen {B o : Nat} {C : Array Value} {el : TypeId} {fz : Nat × Nat} (h : w.heap[B]? = some (.cells C el fz)) (hm : fz.1 = fz.2 ∨ C.size ≤ fz.1) (ho : o < C.size) :
    w.frozen? ⟨B, o, none⟩ = false := by
  obtain ⟨lo, hi⟩ := fz
  simp only [World.frozen?, h]
  simp only at hm
  rcases hm with hm | hm
  · subst hm; simp
  · simp; omega
theorem run_store_cell {B o : Nat} {v : Value} {C : Array Value} {el : TypeId} {fz : Nat × Nat} {m : Mode} (h : w.heap[B]? = some (.cells C el fz)) (hm : fz.1 = fz.2 ∨ C.size ≤ fz.1)
    (ho : o < C.size) (hv : v.oneCell' = true) : (store ⟨B, o, none⟩ v m).run P w = .ok () (w.setCell ⟨B, o, none⟩ v) := by
  rw [run_store P w _ v m hv, cell?_of h]
  have : C[o]? = some C[o] := by simp [ho]
  rw [this, unfrozen h hm ho]
  rfl
theorem run_storeCells {B off : Nat} {el : TypeId} {fz : Nat × Nat} : ∀ (vs : List Value) (i : Nat) (C : Array Value) (w : World), w.heap[B]? = some (.cells C el fz) → (fz.1 = fz.2 ∨ C.size ≤ fz.1) →
    off + i + vs.length ≤ C.size → (∀ v ∈ vs, v.oneCell' = true) →
    ∃ w' C', (storeCells ⟨B, off, none⟩ vs i).run P w = .ok () w' ∧ SB B w w' ∧ w'.heap[B]? = some (.cells C' el fz) ∧ C'.size = C.size ∧
      ∀ j, C'[j]? = if off + i ≤ j ∧ j < off + i + vs.length then vs[j - (off + i)]? else C[j]? := by
  intro vs
  induction vs with
  | nil =>
    intro i C w h hm _ _
    refine ⟨w, C, rfl, .refl _ _, h, rfl, fun j => ?_⟩
    rw [if_neg (by simp)]
  | cons v vs ih =>
    intro i C w h hm hl hv
    simp only [List.length_cons] at hl
    have h1 := run_store_cell (P := P) (m := .plain) h hm (o := off + i) (by omega) (hv v (by simp))
    obtain ⟨w', C', h2, h3, h4, h5, h6⟩ := ih (i + 1) (C.setIfInBounds (off + i) v) _ (heap_setCell_same (o := off + i) (v := v) h) (by simpa using hm) (by simp; omega) (fun u hu => hv u (by simp [hu]))
    refine ⟨w', C', ?_, (SB.setCell B (off + i) v).trans h3, h4, by simpa using h5, fun j => ?_⟩
    · unfold storeCells
      rw [Sem.run_bind, add_none, h1, Result.andThen_ok]
      exact h2
    · rw [h6 j]
      by_cases c : off + (i + 1) ≤ j ∧ j < off + (i + 1) + vs.length
      · rw [if_pos c, if_pos (by simp; omega)]
        rw [show j - (off + i) = (j - (off + (i + 1))) + 1 by omega]
        rfl
      · rw [if_neg c]
        by_cases e : j = off + i
        · subst e
          rw [if_pos (by simp)]
          simp [Array.getElem?_setIfInBounds]
          omega
        · rw [if_neg (by simp; omega)]
          rw [Array.getElem?_setIfInBounds_ne (by omega)]

/-! ### Writing, in the relation -/
theorem setObj_some {b : Nat} {x : AObj} {s' : St} (h : setObj s b x = some s') : s.lo ≤ b ∧ s' = { s with hp := s.hp.set b x } := by
  unfold setObj at h
  cases hb : Nat.ble s.lo b with
  | false => simp [hb] at h
  | true => simp [hb] at h; exact ⟨Nat.le_of_ble_eq_true hb, h.symm⟩

theorem WR.write (hW : WR K w0 E s w) {b : Nat} {x x' : AObj} {l : Loc} {s' : St} {w' : World} (hE : E b = some l) (hb : s.hp.get b = some x) (hx : x ≠ .dead)
    (hs : setObj s b x' = some s') (hsb : SB l.B w w') (ho : OR E x' l w') : WR K w0 E s' w' := by
  obtain ⟨hlo, rfl⟩ := setObj_some hs
  have other : ∀ b' l' y, E b' = some l' → s.hp.get b' = some y → y ≠ .dead → b' ≠ b → l'.B ≠ l.B := fun b' l' y h1 h2 h3 hne e =>
    hne (hW.inj b' b l' l y x h1 hE h2 hb h3 hx e)
  refine ⟨?_, ?_, ?_, ?_, hW.sep, by rw [hsb.size]; exact hW.size, hW.lonx, hsb.tape.trans hW.tape, hsb.os.trans hW.os, hsb.output.trans hW.output⟩
  · intro b' y l' h1 h2
    simp only [Tr.get_set] at h1
    by_cases e : b' = b
    · rw [if_pos e] at h1; cases h1; subst e; rw [hE] at h2; cases h2; exact ho
    · rw [if_neg e] at h1
      by_cases hd : y = .dead
      · subst hd; trivial
      · exact (hW.obj _ _ _ h1 h2).mono (Env.le_refl E) (hsb.heap _ (other _ _ _ h2 h1 hd e))
  · intro b1 b2 l1 l2 x1 x2 e1 e2 g1 g2 d1 d2 hB
    simp only [Tr.get_set] at g1 g2
    by_cases c1 : b1 = b
    · by_cases c2 : b2 = b
      · rw [c1, c2]
      · subst c1; rw [if_neg c2] at g2; rw [hE] at e1; cases e1
        exact absurd hB.symm (other _ _ _ e2 g2 d2 c2)
    · rw [if_neg c1] at g1
      by_cases c2 : b2 = b
      · subst c2; rw [hE] at e2; cases e2
        exact absurd hB (other _ _ _ e1 g1 d1 c1)
      · rw [if_neg c2] at g2
        exact hW.inj _ _ _ _ _ _ e1 e2 g1 g2 d1 d2 hB
  · intro b' l' h; obtain ⟨h1, h2⟩ := hW.lt _ _ h; exact ⟨h1, by rw [hsb.size]; exact h2⟩
  · intro B hB
    obtain ⟨h1, h2⟩ := hW.keep B hB
    refine ⟨h1, ?_⟩
    rw [hsb.heap B (fun e => hW.sep b l hE hlo (e ▸ hB)), h2]

/-- storing the cells of a list -/
theorem WR.storeN (hW : WR K w0 E s w) {b o : Nat} {xs : List AV} {vs : List Value} {l : Loc} {s' : St} (h : storeN s b o xs = some s') (hE : E b = some l) (hv : VRs E xs vs)
    (hf : flat xs = true) : ∃ w', (storeCells ⟨l.B, l.o + o, none⟩ vs).run P w = .ok () w' ∧ WR K w0 E s' w' := by
  unfold Ex.storeN at h
  split at h
  · rename_i c z hb
    split at h
    · rename_i c' hc'
      obtain ⟨C, el, fz, h1, h2⟩ := hW.obj _ _ _ hb hE
      obtain ⟨g1, g2, g3⟩ := setN_some hc'
      have hlen := hv.length
      by_cases hnil : xs = []
      · subst hnil
        cases hv
        refine ⟨w, rfl, hW.write hE hb (by simp) h (.refl _ _) ⟨C, el, fz, h1, h2.tot, by rw [g1]; exact h2.fits, h2.marks, fun j x hx => ?_⟩⟩
        rw [g3 j, if_neg (by simp)] at hx
        exact h2.cell j x hx
      · have hin := g2 hnil
        have hfit := h2.fits
        obtain ⟨w', C', r1, r2, r3, r4, r5⟩ := run_storeCells (P := P) (off := l.o + o) vs 0 C w h1 h2.marks (by omega) (flat_one hf hv)
        refine ⟨w', r1, hW.write hE hb (by simp) h r2 ⟨C', el, fz, r3, by rw [r4]; exact h2.tot, by rw [g1, r4]; exact hfit, by rw [r4]; exact h2.marks, fun j x hx => ?_⟩⟩
        rw [g3 j] at hx
        rw [r5]
        by_cases c : o ≤ j ∧ j < o + xs.length
        · rw [if_pos c] at hx
          obtain ⟨v, k1, k2⟩ := hv.get hx
          refine ⟨v, ?_, k2⟩
          rw [if_pos (by omega), ← k1]; congr 1; omega
        · rw [if_neg c] at hx
          rw [if_neg (by omega)]
          exact h2.cell j x hx
    · simp at h
  · simp at h

theorem flat_of_storeT {t : TypeId} {b o : Nat} {x : AV} {s' : St} (h : storeT P s t b o x = some s') : ∃ n, siz P t = some n ∧ x.cells.length = n ∧ flat x.cells = true ∧ Ex.storeN s b o x.cells = some s' := by
  unfold storeT at h
  split at h
  · rename_i n hn
    split at h
    · rename_i hc; exact ⟨n, hn, hc.1, hc.2, h⟩
    · simp at h
  · simp at h
theorem VR.cells {x : AV} {v : Value} (h : VR E x v) : VRs E x.cells v.cells.toList := by
  cases h <;> first | exact .cons _ _ _ _ (by constructor <;> assumption) .nil | assumption | skip
theorem WR.storeT (hW : WR K w0 E s w) {t : TypeId} {b o : Nat} {x : AV} {v : Value} {l : Loc} {s' : St} (h : storeT P s t b o x = some s') (hE : E b = some l) (hv : VR E x v) :
    ∃ w', (storeVar t ⟨l.B, l.o + o, none⟩ v).run P w = .ok () w' ∧ WR K w0 E s' w' := by
  obtain ⟨n, h1, h2, h3, h4⟩ := flat_of_storeT h
  obtain ⟨w', h5, h6⟩ := hW.storeN (P := P) h4 hE hv.cells h3
  refine ⟨w', ?_, h6⟩
  unfold storeVar
  have : v.cells.size = n := by rw [← h2, hv.cells.length]; simp
  rw [Sem.run_bind, run_sizeOf h1, Result.andThen_ok]
  simp only [this, ne_eq, not_true_eq_false, if_false]
  exact h5

/-! ### New blocks -/
def Env.add (E : Env) (b : Nat) (l : Loc) : Env := fun i => if i = b then some l else E i
theorem Env.add_same (E : Env) (b : Nat) (l : Loc) : (E.add b l) b = some l := by simp [Env.add]
theorem Env.le_add {E : Env} {b : Nat} {l : Loc} (h : E b = none) : Env.le E (E.add b l) := by
  intro i k hk
  unfold Env.add
  by_cases e : i = b
  · subst e; rw [h] at hk; cases hk
  · rw [if_neg e]; exact hk
theorem WR.freshE (hW : WR K w0 E s w) : E s.nx = none := by
  cases h : E s.nx with
  | none => rfl
  | some l => have := (hW.lt _ _ h).1; omega

/-- a block is laid, perhaps behind a draw -/
theorem WR.new (hW : WR K w0 E s w) {x : AObj} {o : Obj} {n d : Nat} (ho : ∀ E' w', Env.le E E' → w'.heap[w.heap.size]? = some o → OR E' x ⟨w.heap.size, 0, n⟩ w') :
    WR K w0 (E.add s.nx ⟨w.heap.size, 0, n⟩) (Ex.new s x) { w with heap := w.heap.push o, drawn := d } := by
  have hle : Env.le E (E.add s.nx ⟨w.heap.size, 0, n⟩) := Env.le_add hW.freshE
  have hold : ∀ k, k < w.heap.size → (w.heap.push o)[k]? = w.heap[k]? := fun k hk => by rw [Array.getElem?_push, if_neg (by omega)]
  refine ⟨?_, ?_, ?_, ?_, ?_, by simp; have := hW.size; omega, by simp [Ex.new]; have := hW.lonx; omega, hW.tape, hW.os, hW.output⟩
  · intro b y l h1 h2
    simp only [Ex.new, Tr.get_set] at h1
    unfold Env.add at h2
    by_cases e : b = s.nx
    · rw [if_pos e] at h1 h2; cases h1; cases h2
      exact ho _ _ hle (by simp)
    · rw [if_neg e] at h1 h2
      exact (hW.obj _ _ _ h1 h2).mono hle (hold _ (hW.lt _ _ h2).2)
  · intro b1 b2 l1 l2 x1 x2 e1 e2 g1 g2 d1 d2 hB
    simp only [Ex.new, Tr.get_set] at g1 g2
    unfold Env.add at e1 e2
    by_cases c1 : b1 = s.nx
    · by_cases c2 : b2 = s.nx
      · rw [c1, c2]
      · rw [if_pos c1] at e1; rw [if_neg c2] at e2; cases e1
        have := (hW.lt _ _ e2).2; simp at hB; omega
    · rw [if_neg c1] at e1 g1
      by_cases c2 : b2 = s.nx
      · rw [if_pos c2] at e2; cases e2
        have := (hW.lt _ _ e1).2; simp at hB; omega
      · rw [if_neg c2] at e2 g2
        exact hW.inj _ _ _ _ _ _ e1 e2 g1 g2 d1 d2 hB
  · intro b l h
    unfold Env.add at h
    by_cases e : b = s.nx
    · rw [if_pos e] at h; cases h; simp [Ex.new, e]
    · rw [if_neg e] at h; obtain ⟨h1, h2⟩ := hW.lt _ _ h; simp [Ex.new]; omega
  · intro B hB
    obtain ⟨h1, h2⟩ := hW.keep B hB
    refine ⟨h1, ?_⟩
    have := hW.size
    show (w.heap.push o)[B]? = _
    rw [hold B (by omega), h2]
  · intro b l h hl
    unfold Env.add at h
    by_cases e : b = s.nx
    · rw [if_pos e] at h; cases h
      intro hK; have h1 := (hW.keep _ hK).1; have h2 := hW.size; dsimp only at h1; omega
    · rw [if_neg e] at h; exact hW.sep _ _ h hl

theorem WR.drawn (hW : WR K w0 E s w) (d : Nat) : WR K w0 E s { w with drawn := d } :=
  ⟨fun b x l h1 h2 => (hW.obj b x l h1 h2).mono (Env.le_refl E) rfl, hW.inj, hW.lt, hW.keep, hW.sep, hW.size, hW.lonx, hW.tape, hW.os, hW.output⟩

/-- a row is taken over, in place, under a new name -/
theorem WR.take (hW : WR K w0 E s w) {b off : Nat} {x x' : AObj} {l : Loc} {s' : St} {w' : World} (hE : E b = some l) (hb : s.hp.get b = some x) (hx : x ≠ .dead)
    (hs : setObj s b .dead = some s') (hsb : SB l.B w w') (ho : ∀ E', Env.le E E' → OR E' x' ⟨l.B, l.o + off, l.tot⟩ w') :
    WR K w0 (E.add s.nx ⟨l.B, l.o + off, l.tot⟩) (Ex.new s' x') w' := by
  obtain ⟨hlo, rfl⟩ := setObj_some hs
  have hbn : b < s.nx := (hW.lt _ _ hE).1
  have hle : Env.le E (E.add s.nx ⟨l.B, l.o + off, l.tot⟩) := Env.le_add hW.freshE
  have other : ∀ b' l' y, E b' = some l' → s.hp.get b' = some y → y ≠ .dead → b' ≠ b → l'.B ≠ l.B := fun b' l' y h1 h2 h3 hne e =>
    hne (hW.inj b' b l' l y x h1 hE h2 hb h3 hx e)
  refine ⟨?_, ?_, ?_, ?_, ?_, by rw [hsb.size]; exact hW.size, by simp [Ex.new]; have := hW.lonx; omega, hsb.tape.trans hW.tape, hsb.os.trans hW.os, hsb.output.trans hW.output⟩
  · intro b' y l' h1 h2
    simp only [Ex.new, Tr.get_set] at h1
    unfold Env.add at h2
    by_cases e : b' = s.nx
    · rw [if_pos e] at h1 h2; cases h1; cases h2; exact ho _ hle
    · rw [if_neg e] at h1 h2
      by_cases e2 : b' = b
      · rw [if_pos e2] at h1; cases h1; trivial
      · rw [if_neg e2] at h1
        by_cases hd : y = .dead
        · subst hd; trivial
        · exact (hW.obj _ _ _ h1 h2).mono hle (hsb.heap _ (other _ _ _ h2 h1 hd e2))
  · intro b1 b2 l1 l2 x1 x2 e1 e2 g1 g2 d1 d2 hB
    simp only [Ex.new, Tr.get_set] at g1 g2
    unfold Env.add at e1 e2
    by_cases c1 : b1 = s.nx
    · by_cases c2 : b2 = s.nx
      · rw [c1, c2]
      · rw [if_pos c1] at e1 g1; rw [if_neg c2] at e2 g2; cases e1
        by_cases q : b2 = b
        · rw [if_pos q] at g2; cases g2; exact absurd rfl d2
        · rw [if_neg q] at g2
          exact absurd hB.symm (other _ _ _ e2 g2 d2 q)
    · rw [if_neg c1] at e1 g1
      by_cases q1 : b1 = b
      · rw [if_pos q1] at g1; cases g1; exact absurd rfl d1
      · rw [if_neg q1] at g1
        by_cases c2 : b2 = s.nx
        · rw [if_pos c2] at e2; cases e2
          exact absurd hB (other _ _ _ e1 g1 d1 q1)
        · rw [if_neg c2] at e2 g2
          by_cases q2 : b2 = b
          · rw [if_pos q2] at g2; cases g2; exact absurd rfl d2
          · rw [if_neg q2] at g2
            exact hW.inj _ _ _ _ _ _ e1 e2 g1 g2 d1 d2 hB
  · intro b' l' h
    unfold Env.add at h
    by_cases e : b' = s.nx
    · rw [if_pos e] at h; cases h; simp [Ex.new, e]; rw [hsb.size]; exact (hW.lt _ _ hE).2
    · rw [if_neg e] at h; obtain ⟨h1, h2⟩ := hW.lt _ _ h; simp [Ex.new]; rw [hsb.size]; omega
  · intro B hB
    obtain ⟨h1, h2⟩ := hW.keep B hB
    exact ⟨h1, by rw [hsb.heap B (fun e => hW.sep b l hE hlo (e ▸ hB)), h2]⟩
  · intro b' l' h hl
    unfold Env.add at h
    by_cases e : b' = s.nx
    · rw [if_pos e] at h; cases h; exact hW.sep b l hE hlo
    · rw [if_neg e] at h; exact hW.sep _ _ h hl
end
end Go.Ex
