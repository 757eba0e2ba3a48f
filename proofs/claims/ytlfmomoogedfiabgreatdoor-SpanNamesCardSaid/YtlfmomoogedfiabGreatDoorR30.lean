/- PROVED: calls foretold by a table of small runs. Conditions: those in each theorem's own words (the abstract state stands for the world). By an AI agent. -/
import Derived.Test.YtlfmomoogedfiabGreatDoorR29
namespace Go.Ex
section
variable {K : Nat → Prop} {w0 : World} {P : Program} {G : Nat} {ext : FuncId → Option Ext}

/-! ### Calls foretold on a small heap -/
theorem plain1_VR {E E' : Env} {x : AV} {v : Value} (h : plain1 x = true) (hx : VR E x v) : VR E' x v := by
  cases x <;> simp [plain1] at h
  · cases hx; exact .bool _
  · cases hx; exact .int _ _
theorem plains_VR {E E' : Env} : ∀ {l : List AV} {vs : List Value}, plains l = true → VRs E l vs → VRs E' l vs := by
  intro l
  induction l with
  | nil => intro vs _ h; cases h; exact .nil
  | cons x l ih =>
    intro vs hp h
    cases h with
    | cons _ v _ vs h ht =>
      simp only [plains] at hp
      cases hx : plain1 x with
      | false => rw [hx] at hp; cases hp
      | true => rw [hx] at hp; exact .cons _ _ _ _ (plain1_VR hx h) (ih hp ht)
theorem plainV_VR {E E' : Env} {x : AV} {v : Value} (h : plainV x = true) (hx : VR E x v) : VR E' x v := by
  unfold plainV at h
  split at h
  · obtain ⟨a, rfl, h2⟩ := agg_inv hx; exact .agg _ _ (plains_VR h h2)
  · obtain ⟨a, rfl, h2⟩ := tuple_inv hx; exact .tuple _ _ (plains_VR h h2)
  · exact plain1_VR h hx
theorem plains_get {l : List AV} (h : plains l = true) {j : Nat} {x : AV} (hx : l[j]? = some x) : plain1 x = true := by
  induction l generalizing j with
  | nil => simp at hx
  | cons y l ih =>
    simp only [plains] at h
    cases hy : plain1 y with
    | false => rw [hy] at h; cases h
    | true =>
      rw [hy] at h
      cases j with
      | zero => simp at hx; subst hx; exact hy
      | succ j => exact ih h (by simpa using hx)
theorem renA_ok {E E1 : Env} {b : Nat} {x y : AV} {v : Value} (h : renA G b x = some y) (hE : E1 G = E b) (hx : VR E x v) : VR E1 y v := by
  unfold renA at h
  split at h
  · replace h := bif_some h; obtain ⟨hc, h⟩ := h
    rw [beq_iff] at hc; subst hc; cases h
    obtain ⟨l, h1, rfl⟩ := ptr_inv hx
    exact .ptr _ _ _ (by rw [hE, h1])
  · replace h := bif_some h; obtain ⟨hc, h⟩ := h
    rw [beq_iff] at hc; subst hc; cases h
    obtain ⟨l, h1, rfl⟩ := sl_inv hx
    exact .sl _ _ _ _ _ (by rw [hE, h1])
  · replace h := bif_some h; obtain ⟨hc, h⟩ := h
    rw [beq_iff] at hc; subst hc; cases h
    obtain ⟨l, h1, h2, rfl⟩ := slB_inv hx
    exact .slB _ _ _ _ _ (by rw [hE, h1]) h2
  · replace h := bif_some h; obtain ⟨hc, h⟩ := h
    cases h
    exact plainV_VR hc hx
theorem renL_ok {E E1 : Env} {b : Nat} (hE : E1 G = E b) : ∀ {l l' : List AV} {vs : List Value}, renL G b l = some l' → VRs E l vs → VRs E1 l' vs := by
  intro l
  induction l with
  | nil => intro l' vs h hv; simp [renL] at h; subst h; cases hv; exact .nil
  | cons x l ih =>
    intro l' vs h hv
    cases hv with
    | cons _ v _ vs hv ht =>
      simp only [renL] at h
      split at h
      · rename_i y hy
        split at h
        · rename_i ys hys
          cases h
          exact .cons _ _ _ _ (renA_ok hy hE hv) (ih hys ht)
        · cases h
      · cases h
theorem renL_named {E : Env} {b : Nat} : ∀ {l l' : List AV} {vs : List Value}, renL G b l = some l' → baseL l = some b → VRs E l vs → ∃ k, E b = some k := by
  intro l
  induction l with
  | nil => intro l' vs _ h _; cases h
  | cons x l ih =>
    intro l' vs h hb hv
    cases hv with
    | cons _ v _ vs hv ht =>
      simp only [renL] at h
      split at h
      · rename_i y hy
        split at h
        · rename_i ys hys
          simp only [baseL] at hb
          split at hb
          · rename_i b' hb'
            cases hb
            unfold renA at hy
            split at hy
            · replace hy := bif_some hy; obtain ⟨hc, _⟩ := hy
              rw [beq_iff] at hc; subst hc
              obtain ⟨k, h1, _⟩ := ptr_inv hv; exact ⟨k, h1⟩
            · replace hy := bif_some hy; obtain ⟨hc, _⟩ := hy
              rw [beq_iff] at hc; subst hc
              obtain ⟨k, h1, _⟩ := sl_inv hv; exact ⟨k, h1⟩
            · replace hy := bif_some hy; obtain ⟨hc, _⟩ := hy
              rw [beq_iff] at hc; subst hc
              obtain ⟨k, h1, _⟩ := slB_inv hv; exact ⟨k, h1⟩
            · replace hy := bif_some hy; obtain ⟨hc, _⟩ := hy
              cases x <;> simp [baseOf] at hb' <;> simp [plainV, plain1] at hc
          · exact ih hys hb ht
        · cases h
      · cases h
theorem sameCells_ok {c : List AV} {z : Nat} {o : Option AObj} (h : sameCells c z o = true) : o = some (.cells c z) := by
  unfold sameCells at h
  split at h
  · simp only [Bool.and_eq_true, beq_iff] at h
    rw [beqs_eq _ _ h.1, h.2]
  · cases h
theorem globOK_ok {g : Tr AObj} {s : St} : ∀ {n : Nat}, globOK g s n = true → ∀ i, i < n → ∀ x, g.get i = some x → s.hp.get i = some x ∧ ∃ c z, x = .cells c z ∧ plains c = true := by
  intro n
  induction n with
  | zero => intro _ i hi; omega
  | succ n ih =>
    intro h i hi x hx
    simp only [globOK] at h
    by_cases e : i = n
    · subst e
      rw [hx] at h
      split at h
      · rename_i q; cases q
      · rename_i c z q
        cases q
        cases hs : (sameCells c z (s.hp.get i) && plains c) with
        | false => rw [hs] at h; cases h
        | true =>
          simp only [Bool.and_eq_true] at hs
          exact ⟨sameCells_ok hs.1, c, z, rfl, hs.2⟩
      · cases h
    · split at h
      · exact ih h i (by omega) x hx
      · rename_i c z q
        cases hs : (sameCells c z (s.hp.get n) && plains c) with
        | false => rw [hs] at h; cases h
        | true => rw [hs] at h; exact ih h i (by omega) x hx
      · cases h
theorem findEnt_ok {f : FuncId} {args c : List AV} {z : Nat} : ∀ {l : List Ent} {e : Ent}, findEnt f args c z l = some e → e ∈ l ∧ e.f = f ∧ e.args = args ∧ e.c = c ∧ e.z = z := by
  intro l
  induction l with
  | nil => intro e h; cases h
  | cons q l ih =>
    intro e h
    simp only [findEnt] at h
    cases hc : (Nat.beq q.f f && Nat.beq q.z z && AV.beqs q.args args && AV.beqs q.c c) with
    | true =>
      rw [hc] at h
      cases h
      simp only [Bool.and_eq_true, beq_iff] at hc
      exact ⟨.head _, hc.1.1.1, beqs_eq _ _ hc.1.2, beqs_eq _ _ hc.2, hc.1.1.2⟩
    | false =>
      rw [hc] at h
      obtain ⟨h1, h2⟩ := ih h
      exact ⟨.tail _ h1, h2⟩
/-- the small heap stands for the same world -/
theorem WR.small {E : Env} {s : St} {w : World} (hW : WR K w0 E s w) {g : Tr AObj} {b : Nat} {c : List AV} {z : Nat} {l : Loc} (hb : s.hp.get b = some (.cells c z)) (hE : E b = some l) (hGb : G ≤ b) (hc : plains c = true)
    (hg : ∀ i, i < G → ∀ x, g.get i = some x → s.hp.get i = some x ∧ ∃ c z, x = .cells c z ∧ plains c = true) :
    WR (fun B => B < w.heap.size ∧ B ≠ l.B) w (fun i => if i < G then E i else if i = G then E b else none) (Ex.small G g c z) w := by
  let ix : Nat → Nat := fun i => if i < G then i else b
  have hget : ∀ i x l', (Ex.small G g c z).hp.get i = some x → (if i < G then E i else if i = G then E b else none) = some l' → s.hp.get (ix i) = some x ∧ E (ix i) = some l' ∧ ∃ c z, x = .cells c z ∧ plains c = true := by
    intro i x l' h1 h2
    simp only [Ex.small, Tr.get_set] at h1
    by_cases e : i < G
    · rw [if_neg (by omega)] at h1
      rw [if_pos e] at h2
      simp only [ix, e, if_true]
      exact ⟨(hg i e x h1).1, h2, (hg i e x h1).2⟩
    · rw [if_neg e] at h2
      by_cases e2 : i = G
      · rw [if_pos e2] at h1 h2
        cases h1
        simp only [ix, e, if_false]
        exact ⟨hb, h2, c, z, rfl, hc⟩
      · rw [if_neg e2] at h2; cases h2
  refine ⟨fun i x l' h1 h2 => ?_, fun i j l1 l2 x1 x2 e1 e2 g1 g2 d1 d2 hB => ?_, fun i l' h => ?_, fun B hB => ⟨hB.1, rfl⟩, fun i l' h hi hK => ?_, Nat.le_refl _, by simp [Ex.small], rfl, rfl, rfl⟩
  · obtain ⟨q1, q2, c', z', rfl, hp⟩ := hget i x l' h1 h2
    obtain ⟨C, el, fz, k1, k2⟩ := hW.obj _ _ _ q1 q2
    refine ⟨C, el, fz, k1, k2.tot, k2.fits, k2.marks, fun j y hy => ?_⟩
    obtain ⟨v, v1, v2⟩ := k2.cell j y hy
    exact ⟨v, v1, plain1_VR (plains_get hp hy) v2⟩
  · obtain ⟨q1, q2, _⟩ := hget i x1 l1 g1 e1
    obtain ⟨q3, q4, _⟩ := hget j x2 l2 g2 e2
    have := hW.inj _ _ _ _ _ _ q2 q4 q1 q3 d1 d2 hB
    simp only [ix] at this
    have hi : i ≤ G := by
      by_cases e : i < G
      · omega
      · rw [if_neg e] at e1
        by_cases e' : i = G
        · omega
        · rw [if_neg e'] at e1; cases e1
    have hj : j ≤ G := by
      by_cases e : j < G
      · omega
      · rw [if_neg e] at e2
        by_cases e' : j = G
        · omega
        · rw [if_neg e'] at e2; cases e2
    by_cases a1 : i < G <;> by_cases a2 : j < G <;> simp [a1, a2] at this <;> omega
  · by_cases e : i < G
    · rw [if_pos e] at h
      exact ⟨by simp [Ex.small]; omega, (hW.lt _ _ h).2⟩
    · rw [if_neg e] at h
      by_cases e2 : i = G
      · rw [if_pos e2] at h
        exact ⟨by simp [Ex.small]; omega, (hW.lt _ _ h).2⟩
      · rw [if_neg e2] at h; cases h
  · have hi' : G ≤ i := hi
    rw [if_neg (by omega)] at h
    by_cases e2 : i = G
    · rw [if_pos e2, hE] at h
      cases h
      exact hK.2 rfl
    · rw [if_neg e2] at h; cases h
/-- calls foretold by a table -/
theorem memo_ok (hm : P.follows .mixedOrders = true) (hX : ExtOK P ext) {g : Tr AObj} {ids : List FuncId} {n : Nat} {tbl : List Ent} (hT : ∀ e ∈ tbl, entOK P G ext g n e = true) : MemoOK K w0 P G (memoT G g ids tbl) := by
  intro f args s v s' h E w vs hW hG hv
  unfold memoT at h
  split at h
  · cases h
  · split at h
    · cases h
    · rename_i b hbase
      replace h := bif_some h; obtain ⟨hc, h⟩ := h
      simp only [Bool.and_eq_true, ble_iff] at hc
      obtain ⟨⟨hGb, hlo⟩, hgl⟩ := hc
      split at h
      · rename_i c z hb
        split at h
        · rename_i args' hren
          split at h
          · rename_i e he
            cases h
            obtain ⟨hmem, rfl, rfl, rfl, rfl⟩ := findEnt_ok he
            have hent := hT e hmem
            unfold entOK at hent
            split at hent
            · rename_i v1 u1 s1 hrun
              simp only [Bool.and_eq_true] at hent
              obtain ⟨⟨⟨⟨k1, k2⟩, k3⟩, k4⟩, k5⟩ := hent
              have k1' := beq_eq _ _ k1
              subst k1'
              have hG1 := sameCells_ok k2
              obtain ⟨l, hE⟩ := renL_named hren hbase hv
              have hW1 := hW.small (g := g) hb hE hGb k5 (globOK_ok hgl)
              have hR := run_ok (K := fun B => B < w.heap.size ∧ B ≠ l.B) (w0 := w) (G := G) hm hX (memo := fun _ _ _ => none) (fun f args s v s' h => by cases h) n
              have hGl : Glob (fun i => if i < G then E i else if i = G then E b else none) G := fun i hi => by
                obtain ⟨tot, ht⟩ := hG i hi
                exact ⟨tot, by dsimp only; rw [if_pos hi, ht]⟩
              have hargs := renL_ok (E1 := fun i => if i < G then E i else if i = G then E b else none) (by simp) hren hv
              refine (hR.call _ _ _ _ _ _ hrun _ w vs hW1 hGl hargs).mono fun en w' q => ?_
              obtain ⟨E', zv, rfl, g1, g2, g3, g4⟩ := q
              have hE' : E' G = some l := by
                apply g1.le
                simp [hE]
              refine ⟨E, zv, rfl, Grow.refl _ _, plainV_VR k3 g2, ?_, ⟨Nat.le_refl _, rfl⟩⟩
              have other : ∀ i l' y, E i = some l' → s.hp.get i = some y → y ≠ .dead → i ≠ b → l'.B ≠ l.B := fun i l' y h1 h2 h3 hne q =>
                hne (hW.inj i b l' l y _ h1 hE h2 hb h3 (by simp) q)
              have old : ∀ B, B < w.heap.size → B ≠ l.B → w'.heap[B]? = w.heap[B]? := fun B h1 h2 => (g3.keep B ⟨h1, h2⟩).2
              refine ⟨fun i y l' h1 h2 => ?_, fun i j l1 l2 x1 x2 e1 e2 q1 q2 d1 d2 hB => ?_, fun i l' h => ?_, fun B hB => ?_, hW.sep, Nat.le_trans hW.size g3.size, hW.lonx, g3.tape.trans hW.tape, g3.os.trans hW.os, g3.output.trans hW.output⟩
              · simp only [Tr.get_set] at h1
                by_cases e' : i = b
                · rw [if_pos e'] at h1
                  cases h1
                  subst e'
                  rw [hE] at h2
                  cases h2
                  obtain ⟨C, el, fz, c1, c2⟩ := g3.obj _ _ _ hG1 hE'
                  refine ⟨C, el, fz, c1, c2.tot, c2.fits, c2.marks, fun j x hx => ?_⟩
                  obtain ⟨u, u1, u2⟩ := c2.cell j x hx
                  exact ⟨u, u1, plain1_VR (plains_get k4 hx) u2⟩
                · rw [if_neg e'] at h1
                  by_cases hd : y = .dead
                  · subst hd; trivial
                  · exact (hW.obj _ _ _ h1 h2).mono (Env.le_refl E) (old _ (hW.lt _ _ h2).2 (other _ _ _ h2 h1 hd e'))
              · simp only [Tr.get_set] at q1 q2
                by_cases a1 : i = b
                · by_cases a2 : j = b
                  · rw [a1, a2]
                  · rw [if_neg a2] at q2
                    subst a1
                    rw [hE] at e1; cases e1
                    exact absurd hB.symm (other _ _ _ e2 q2 d2 a2)
                · rw [if_neg a1] at q1
                  by_cases a2 : j = b
                  · subst a2
                    rw [hE] at e2; cases e2
                    exact absurd hB (other _ _ _ e1 q1 d1 a1)
                  · rw [if_neg a2] at q2
                    exact hW.inj _ _ _ _ _ _ e1 e2 q1 q2 d1 d2 hB
              · obtain ⟨h1, h2⟩ := hW.lt _ _ h
                exact ⟨h1, Nat.lt_of_lt_of_le h2 g3.size⟩
              · obtain ⟨h1, h2⟩ := hW.keep B hB
                refine ⟨h1, ?_⟩
                rw [old B (Nat.lt_of_lt_of_le h1 hW.size) (fun q => hW.sep b l hE hlo (q ▸ hB)), h2]
            · cases hent
          · cases h
        · cases h
      · cases h
end
end Go.Ex
