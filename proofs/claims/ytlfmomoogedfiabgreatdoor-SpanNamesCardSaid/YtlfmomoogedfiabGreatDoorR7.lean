/- PROVED: choice, unary operators, loads, nil checks, composite values. Conditions: those in each theorem's own words (the abstract state stands for the world). By an AI agent. -/
import Derived.Test.YtlfmomoogedfiabGreatDoorR6
import Derived.MapKept
namespace Go.Ex
section
variable {K : Nat → Prop} {w0 : World} {E : Env} {s : St} {w : World} {P : Program} {G : Nat} {tm : Tr AV} {ρ : Operand → Value}

theorem lPick_ok (hρ : OpR E G tm ρ) {c a b : Operand} {r : AV} (h : lPick G tm c a b = some r) :
    ∃ t : Bool, ρ c = .bool t ∧ VR E r (if t then ρ a else ρ b) := by
  unfold lPick at h
  split at h
  · rename_i hc; have := hρ _ _ hc; cases hx : ρ c <;> rw [hx] at this <;> cases this; exact ⟨true, rfl, hρ _ _ h⟩
  · rename_i hc; have := hρ _ _ hc; cases hx : ρ c <;> rw [hx] at this <;> cases this; exact ⟨false, rfl, hρ _ _ h⟩
  · simp at h
theorem unA_ok {op : UnOp} {x r : AV} {v : Value} (h : unA op x = some r) (hx : VR E x v) : ∃ z, (Op.unary op v).run P w = .ok z w ∧ VR E r z := by
  unfold unA at h
  split at h
  · cases hx; simp at h; subst h; exact ⟨_, rfl, .bool _⟩
  · cases hx
    rename_i k n
    simp only [intOp, subA, Option.some.injEq] at h; subst h
    exact ⟨_, rfl, by rw [show k.wrap (0 - n) = wrapF k (Int.sub (Int.ofNat 0) n) from (wrapF_eq _ _).symm]; exact .int _ _⟩
  · cases hx
    rename_i k n
    simp only [Option.some.injEq] at h; subst h
    refine ⟨.int k (k.wrap ((BitVec.ofInt k.bits (if k.signed then -1 else k.max) ^^^ BitVec.ofInt k.bits n).toNat)), rfl, ?_⟩
    rw [← wrapF_eq, BitVec.toNat_xor, ofInt_toNat, ofInt_toNat]
    have : modk k (if k.signed then -1 else k.max) = Nat.sub (pw k) 1 := by cases k <;> rfl
    rw [this]
    exact .int _ _
  · simp at h
theorem ptr_inv {b o : Nat} {v : Value} (h : VR E (.ptr (some (b, o))) v) : ∃ l, E b = some l ∧ v = .pointer (some ⟨l.B, l.o + o, none⟩) := by
  cases h with | ptr _ _ l h => exact ⟨l, h, rfl⟩
theorem iface_inv {t : TypeId} {a : AV} {v : Value} (h : VR E (.iface t a) v) : ∃ v', v = .iface t v' ∧ VR E a v' := by
  cases h with | iface _ _ v' h => exact ⟨v', rfl, h⟩
theorem fn_inv {f : Fn} {a c : List AV} {v : Value} (h : VR E (.fn f a c) v) : ∃ a' c', v = .func f ⟨a'⟩ ⟨c'⟩ ∧ VRs E a a' ∧ VRs E c c' := by
  cases h with | fn _ _ _ a' c' h1 h2 => exact ⟨a', c', rfl, h1, h2⟩
theorem agg_inv {a : List AV} {v : Value} (h : VR E (.agg a) v) : ∃ a', v = .agg ⟨a'⟩ ∧ VRs E a a' := by
  cases h with | agg _ a' h => exact ⟨a', rfl, h⟩
theorem tuple_inv {a : List AV} {v : Value} (h : VR E (.tuple a) v) : ∃ a', v = .tuple ⟨a'⟩ ∧ VRs E a a' := by
  cases h with | tuple _ a' h => exact ⟨a', rfl, h⟩
theorem int_inv {k : IntKind} {n : Int} {v : Value} (h : VR E (.int k n) v) : v = .int k n := by cases h; rfl
theorem bool_inv {b : Bool} {v : Value} (h : VR E (.bool b) v) : v = .bool b := by cases h; rfl
theorem str_inv {l : List Nat} {v : Value} (h : VR E (.str l) v) : ∃ s, v = .string s ∧ l = s.data.toList.map (·.toNat) := by
  cases h with | str s _ h => exact ⟨s, rfl, h⟩
theorem map_inv {b : Nat} {v : Value} (h : VR E (.map (some b)) v) : ∃ l, E b = some l ∧ v = .map (some l.B) := by
  cases h with | map _ l h => exact ⟨l, h, rfl⟩
theorem mapn_inv {v : Value} (h : VR E (.map none) v) : v = .map none := by cases h; rfl
theorem sl_inv {b o n c : Nat} {v : Value} (h : VR E (.sl (some (b, o)) n c) v) : ∃ l, E b = some l ∧ v = .slice (some ⟨l.B, l.o + o, none⟩) n c := by
  cases h with | sl _ _ _ _ l h => exact ⟨l, h, rfl⟩
theorem sln_inv {n c : Nat} {v : Value} (h : VR E (.sl none n c) v) : n = 0 ∧ c = 0 ∧ v = .slice none 0 0 := by
  cases h; exact ⟨rfl, rfl, rfl⟩
theorem slB_inv {b o n z : Nat} {v : Value} (h : VR E (.slB b o n z) v) : ∃ l, E b = some l ∧ 0 < z ∧ v = .slice (some ⟨l.B, l.o + o, none⟩) n ((l.tot - l.o - o) / z) := by
  cases h with | slB _ _ _ _ l h hz => exact ⟨l, h, hz, rfl⟩
theorem slE_inv {b o k z : Nat} {v : Value} (h : VR E (.slE b o k z) v) : ∃ l, E b = some l ∧ 0 < z ∧ v = emptyAt l o k z := by
  generalize hu : v = u at h
  cases h with | slE _ _ _ _ l h hz => exact ⟨l, h, hz, rfl⟩
theorem lLoad_ok (hW : WR K w0 E s w) (hρ : OpR E G tm ρ) {t : TypeId} {a : Operand} {r : AV} (h : lLoad P G tm s t a = some r) :
    ∃ z, (Instr.loadAt t (ρ a)).run P w = .ok z w ∧ VR E r z := by
  unfold lLoad at h
  split at h
  · rename_i b o ha
    obtain ⟨l, h1, h2⟩ := ptr_inv (hρ _ _ ha)
    obtain ⟨v, h3, h4⟩ := hW.loadT (P := P) h h1
    refine ⟨v, ?_, h4⟩
    rw [h2]; simp [Instr.loadAt, Instr.sureAddr, h3]
  · simp at h
theorem lNil_ok (hρ : OpR E G tm ρ) {x : Operand} {r : AV} {o : Oper} (h : lNil G tm x = some r) (ho : o.op = .nilCheck x) :
    ∃ z, (execOp ρ o).run P w = .ok (.value z) w ∧ VR E r z := by
  unfold lNil at h
  unfold execOp
  rw [ho]
  split at h
  · rename_i a hx
    simp at h; subst h
    have hv := hρ _ _ hx
    obtain ⟨b, o⟩ := a
    obtain ⟨l, _, h2⟩ := ptr_inv hv
    simp only [h2]
    exact ⟨_, rfl, h2 ▸ hv⟩
  · rename_i t v hx
    simp at h; subst h
    have hv := hρ _ _ hx
    obtain ⟨v', h1, h2⟩ := iface_inv hv
    simp only [h1]
    exact ⟨_, rfl, h1 ▸ hv⟩
  · rename_i f a b hx
    simp at h; subst h
    have hv := hρ _ _ hx
    obtain ⟨a', c', h1, h2, h3⟩ := fn_inv hv
    simp only [h1]
    exact ⟨_, rfl, h1 ▸ hv⟩
  · simp at h

/-! ### Building -/
theorem partsA_ok (hρ : OpR E G tm ρ) : ∀ {l : List (Nat × Operand)} {ps : List (Nat × AV)}, partsA G tm l = some ps →
    ps.map (·.1) = l.map (·.1) ∧ VRs E (ps.map (·.2)) (l.map fun p => ρ p.2) := by
  intro l
  induction l with
  | nil => intro ps h; simp [partsA] at h; subst h; exact ⟨rfl, .nil⟩
  | cons p l ih =>
    intro ps h
    obtain ⟨i, x⟩ := p
    simp only [partsA] at h
    cases h1 : evA G tm x with
    | none => simp [h1] at h
    | some v =>
      cases h2 : partsA G tm l with
      | none => simp [h1, h2] at h
      | some qs =>
        simp [h1, h2] at h; subst h
        obtain ⟨h3, h4⟩ := ih h2
        exact ⟨by simp [h3], .cons _ _ _ _ (hρ _ _ h1) h4⟩
theorem foldl_set (off : Nat) : ∀ (vs : List Value) (k : Nat) (C : Array Value), off + k + vs.length ≤ C.size →
    ((vs.zipIdx k).foldl (fun cs (p : Value × Nat) => cs.setIfInBounds (off + p.2) p.1) C).size = C.size ∧
    ∀ j, ((vs.zipIdx k).foldl (fun cs (p : Value × Nat) => cs.setIfInBounds (off + p.2) p.1) C)[j]? = if off + k ≤ j ∧ j < off + k + vs.length then vs[j - (off + k)]? else C[j]? := by
  intro vs
  induction vs with
  | nil => intro k C _; refine ⟨rfl, fun j => ?_⟩; simp; intro _ _; omega
  | cons v vs ih =>
    intro k C hl
    simp only [List.length_cons] at hl
    obtain ⟨h1, h2⟩ := ih (k + 1) (C.setIfInBounds (off + k) v) (by simp; omega)
    simp only [List.zipIdx_cons, List.foldl_cons]
    refine ⟨by rw [h1]; simp, fun j => ?_⟩
    rw [h2 j]
    by_cases c : off + (k + 1) ≤ j ∧ j < off + (k + 1) + vs.length
    · rw [if_pos c, if_pos (by simp; omega), show j - (off + k) = (j - (off + (k + 1))) + 1 by omega]; rfl
    · rw [if_neg c]
      by_cases e : j = off + k
      · subst e; rw [if_pos (by simp)]; simp [Array.getElem?_setIfInBounds]; omega
      · rw [if_neg (by simp; omega), Array.getElem?_setIfInBounds_ne (by omega)]
theorem fillA_ok {place : Nat → Option (Nat × Nat)} : ∀ {ps : List (Nat × AV)} {qs : List (Nat × Value)} {c c' : List AV} {C : Array Value}, fillA place ps c = some c' →
    ps.map (·.1) = qs.map (·.1) → VRs E (ps.map (·.2)) (qs.map (·.2)) → VRs E c C.toList → ∃ C', Instr.fill place C qs = some C' ∧ VRs E c' C'.toList := by
  intro ps
  induction ps with
  | nil =>
    intro qs c c' C h h1 h2 h3
    cases qs with
    | nil => simp [fillA] at h; subst h; exact ⟨C, rfl, h3⟩
    | cons => simp at h1
  | cons p ps ih =>
    intro qs c c' C h h1 h2 h3
    obtain ⟨i, x⟩ := p
    cases qs with
    | nil => simp at h1
    | cons q qs =>
      obtain ⟨i', v⟩ := q
      simp only [List.map_cons, List.cons.injEq] at h1
      obtain ⟨rfl, h1⟩ := h1
      cases h2 with | cons _ _ _ _ hx h2 =>
      simp only [fillA] at h
      split at h
      · rename_i off z hp
        cases hb : Nat.beq x.cells.length z with
        | false => simp [hb] at h
        | true =>
          have hz := Nat.eq_of_beq_eq_true hb
          simp only [hb, cond_true] at h
          split at h
          · rename_i c1 hc1
            split at h
            · simp at h
            · rename_i y ys hcs
              obtain ⟨g1, g2, g3⟩ := setN_some hc1
              have hin := g2 (by rw [hcs]; simp)
              have hcell := hx.cells
              have hl1 : v.cells.size = x.cells.length := by rw [hcell.length]; simp
              have hl2 : C.size = c.length := by rw [h3.length]; simp
              have hf := foldl_set off v.cells.toList 0 C (by simp; omega)
              simp only [Instr.fill, hp]
              rw [if_neg (by simp; omega)]
              refine ih h h1 h2 ?_
              have e : (v.cells.zipIdx.foldl (fun cs (p : Value × Nat) => cs.setIfInBounds (off + p.2) p.1) C) = ((v.cells.toList.zipIdx 0).foldl (fun cs (p : Value × Nat) => cs.setIfInBounds (off + p.2) p.1) C) := by
                rw [← Array.foldl_toList, Array.toList_zipIdx]
              rw [e]
              refine VRs.of_get (by rw [g1, ← hl2, ← hf.1]; simp) ?_
              intro j a u ha hu
              rw [Array.getElem?_toList, hf.2 j] at hu
              rw [g3 j] at ha
              by_cases cc : off ≤ j ∧ j < off + x.cells.length
              · rw [if_pos cc] at ha
                rw [if_pos (by simp; omega)] at hu
                obtain ⟨u', k1, k2⟩ := hcell.get ha
                simp only [Nat.add_zero] at hu
                rw [hu] at k1; cases k1; exact k2
              · rw [if_neg cc] at ha
                rw [if_neg (by simp; omega)] at hu
                obtain ⟨u', k1, k2⟩ := h3.get ha
                rw [Array.getElem?_toList] at k1
                rw [hu] at k1; cases k1; exact k2
          · simp at h
      · simp at h
theorem run_places : ∀ {fs : List Field} {l : List (Nat × Nat)}, placesA P fs = some l →
    (fs.mapM fun f => do pure (f.offset, ← sizeOf f.type) : Sem (List (Nat × Nat))).run P w = .ok l w := by
  intro fs
  induction fs with
  | nil => intro l h; simp [placesA] at h; subst h; simp
  | cons f fs ih =>
    intro l h
    simp only [placesA] at h
    split at h
    · rename_i z hz
      split at h
      · rename_i l' hl'
        simp at h; subst h
        rw [List.mapM_cons]
        simp only [Sem.run_bind, run_sizeOf hz, Result.andThen_ok, Sem.run_pure]
        rw [ih hl']
        rfl
      · simp at h
    · simp at h
theorem lBuild_ok (hρ : OpR E G tm ρ) {t : TypeId} {parts : Array (Nat × Operand)} {r : AV} (h : lBuild P G tm t parts.toList = some r) :
    ∃ z, (Instr.build t (parts.map fun (i, x) => (i, ρ x))).run P w = .ok z w ∧ VR E r z := by
  unfold lBuild at h
  split at h
  · rename_i c hz
    obtain ⟨zv, hz1, hz2, _⟩ := run_zeroValue hz
    have hzc := hz2 E
    split at h
    · rename_i ps hps
      obtain ⟨p1, p2⟩ := partsA_ok hρ hps
      have q1 : ps.map (·.1) = ((parts.map fun (i, x) => (i, ρ x)).toList).map (·.1) := by simp [p1, Function.comp_def]
      have q2 : VRs E (ps.map (·.2)) (((parts.map fun (i, x) => (i, ρ x)).toList).map (·.2)) := by simpa [Function.comp_def] using p2
      split at h
      · rename_i fs hu
        split at h
        · rename_i l hl
          split at h
          · rename_i c' hc'
            simp at h; subst h
            obtain ⟨C', f1, f2⟩ := fillA_ok (C := zv.cells) hc' q1 q2 hzc.cells
            refine ⟨.agg C', ?_, .agg _ _ f2⟩
            unfold Instr.build
            have hm : (fs.mapM fun f => do pure (f.offset, ← sizeOf f.type) : Sem (Array (Nat × Nat))).run P w = .ok l.toArray w := by
              rw [Array.mapM_eq_mapM_toList, Sem.run_map, run_places hl]
              rfl
            have hf : (fun x => (l.toArray)[x]?) = nth l := by funext i; simp [nth_eq]
            simp only [Sem.run_bind, hz1, run_underlying hu, Result.andThen_ok, hm]
            rw [hf, f1]
            rfl
          · simp at h
        · simp at h
      · rename_i n e hu
        split at h
        · rename_i z hz'
          split at h
          · rename_i c' hc'
            simp at h; subst h
            obtain ⟨C', f1, f2⟩ := fillA_ok (C := zv.cells) hc' q1 q2 hzc.cells
            refine ⟨.agg C', ?_, .agg _ _ f2⟩
            unfold Instr.build
            simp only [Sem.run_bind, hz1, run_underlying hu, Result.andThen_ok, run_sizeOf hz']
            rw [show (fun i => some (i * z, z)) = (fun i => some (Nat.mul i z, z)) from rfl, f1]
            rfl
          · simp at h
        · simp at h
      · simp at h
    · simp at h
  · simp at h
end
end Go.Ex
