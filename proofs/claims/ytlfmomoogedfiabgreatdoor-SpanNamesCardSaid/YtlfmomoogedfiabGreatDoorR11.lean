/- PROVED: every light operation: the model computes what is foretold; the world stays. Conditions: those in each theorem's own words (the abstract state stands for the world). By an AI agent. -/
import Derived.Test.YtlfmomoogedfiabGreatDoorR10
namespace Go.Ex
section
variable {K : Nat → Prop} {w0 : World} {E : Env} {s : St} {w : World} {P : Program} {G : Nat} {tm : Tr AV} {ρ : Operand → Value}

theorem lenA_ok (hW : WR K w0 E s w) {ts : Array TypeId} {t ty : TypeId} {x : AV} {v : Value} {n : Nat} (ht : ts[0]? = some t) (h : lenA P s t x = some n) (hx : VR E x v) :
    (Builtin.len_ ts ty #[v]).run P w = .ok (.int .i64 (n : Int)) w := by
  unfold lenA at h
  unfold Builtin.len_
  simp only [ht]
  split at h
  · rename_i l hu
    cases h
    obtain ⟨s, rfl, rfl⟩ := str_inv hx
    simp [run_underlying hu, goInt]
  · rename_i hu
    cases h
    simp [run_underlying hu, goInt]
  · rename_i a hu
    split at h
    · rename_i hu2
      cases h
      simp [run_underlying hu, run_underlying hu2, goInt]
    · cases h
  · rename_i hu
    obtain ⟨a, c, rfl⟩ := lenS_len h hx
    simp [run_underlying hu, goInt]
  · rename_i hu
    cases h
    rw [mapn_inv hx]
    simp [run_underlying hu, goInt]
  · rename_i r hu
    cases hm : mapAt s r with
    | none => simp [hm] at h
    | some p =>
      obtain ⟨es, c⟩ := p
      simp [hm] at h; subst h
      obtain ⟨l, hE, rfl⟩ := map_inv hx
      obtain ⟨_, _, es', h1, h2⟩ := hW.mapAt hm hE
      have hg : (getObj l.B).run P w = .ok (.map es' c) w := by simp [getObj, Sem.run, h1]
      have := h2.length
      simp [run_underlying hu, goInt, hg, this]
  · cases h
theorem toList_map (args : Array Operand) (ρ : Operand → Value) : (args.map ρ).toList = args.toList.map ρ := by simp
theorem lCall_ok (hW : WR K w0 E s w) (hρ : OpR E G tm ρ) {c : Call} {ty : TypeId} {r : AV} (h : lCall P G tm s c = some r) :
    ∃ z, (do let d ← resolve ρ c ty; invoke d.target d.args : Sem Next).run P w = .ok (.value z) w ∧ VR E r z := by
  obtain ⟨callee, ⟨args⟩, ⟨ts⟩⟩ := c
  unfold lCall at h
  simp only at h
  split at h
  · rename_i b
    split at h
    · unfold lLen at h
      split at h
      · rename_i x
        split at h
        · rename_i t ts
          split at h
          · rename_i v hv
            split at h
            · rename_i n hn
              cases h
              refine ⟨_, ?_, .int _ _⟩
              have := lenA_ok (ts := ⟨t :: ts⟩) (t := t) (ty := ty) hW rfl hn (hρ _ _ hv)
              simp [resolve, invoke, builtin, this]
            · cases h
          · cases h
        · cases h
      · cases h
    · unfold lCap at h
      split at h
      · rename_i x
        split at h
        · rename_i t ts
          split at h
          · rename_i e hu
            split at h
            · rename_i a l n hv
              cases h
              refine ⟨_, ?_, .int _ _⟩
              have hx := hρ _ _ hv
              have : ∃ a', ρ x = .slice a' l n := by
                cases a with
                | none => obtain ⟨rfl, rfl, h⟩ := sln_inv hx; exact ⟨_, h⟩
                | some p => obtain ⟨b, o⟩ := p; obtain ⟨_, _, h⟩ := sl_inv hx; exact ⟨_, h⟩
              obtain ⟨a', ha⟩ := this
              simp [resolve, invoke, builtin, Builtin.cap_, ha, run_underlying hu, goInt]
            · cases h
          · cases h
        · cases h
      · cases h
    · unfold lTwo at h
      split at h
      · rename_i x y
        split at h
        · rename_i a ha
          split at h
          · rename_i b hb
            unfold minA at h
            split at h
            · cases h
              refine ⟨_, ?_, .int _ _⟩
              have h1 := int_inv (hρ _ _ ha)
              have h2 := int_inv (hρ _ _ hb)
              simp [resolve, invoke, builtin, Builtin.min_, h1, h2, Builtin.min2]
            · cases h
          · cases h
        · cases h
      · cases h
    · unfold lTwo at h
      split at h
      · rename_i x y
        split at h
        · rename_i a ha
          split at h
          · rename_i b hb
            unfold maxA at h
            split at h
            · cases h
              refine ⟨_, ?_, .int _ _⟩
              have h1 := int_inv (hρ _ _ ha)
              have h2 := int_inv (hρ _ _ hb)
              simp [resolve, invoke, builtin, Builtin.max_, h1, h2, Builtin.max2]
            · cases h
          · cases h
        · cases h
      · cases h
    · cases h
  · cases h
theorem asVal {m : Sem Value} {z : Value} (h : m.run P w = .ok z w) : (do pure (.value (← m)) : Sem Next).run P w = .ok (.value z) w := by
  simp [h]
/-- light operations: what is foretold is what is computed; the world stays -/
theorem execL_ok (hW : WR K w0 E s w) (hρ : OpR E G tm ρ) {o : Oper} {r : AV} (h : execL P G tm s o.op = some r) :
    ∃ z, (execOp ρ o).run P w = .ok (.value z) w ∧ VR E r z := by
  have hz : ∀ {m : Sem Value}, (∃ z, m.run P w = .ok z w ∧ VR E r z) → ∃ z, (do pure (.value (← m)) : Sem Next).run P w = .ok (.value z) w ∧ VR E r z :=
    fun ⟨z, h1, h2⟩ => ⟨z, asVal h1, h2⟩
  unfold execL at h
  cases ho : o.op with
  | nilCheck x => rw [ho] at h; exact lNil_ok hρ h ho
  | move x => rw [ho] at h; unfold execOp; rw [ho]; exact ⟨_, rfl, hρ _ _ h⟩
  | assign x => rw [ho] at h; unfold execOp; rw [ho]; exact ⟨_, rfl, hρ _ _ h⟩
  | pick c a b =>
    rw [ho] at h; unfold execOp; rw [ho]
    obtain ⟨t, h1, h2⟩ := lPick_ok hρ h
    exact ⟨_, by simp [h1, asBool], h2⟩
  | build t parts => rw [ho] at h; unfold execOp; rw [ho]; exact hz (lBuild_ok hρ h)
  | load t a => rw [ho] at h; unfold execOp; rw [ho]; exact hz (lLoad_ok hW hρ h)
  | binOp op t x y c => rw [ho] at h; unfold execOp; rw [ho]; exact hz (lBin_ok hρ h)
  | unOp op t x =>
    rw [ho] at h; unfold execOp; rw [ho]
    simp only [lUn] at h
    cases hx : evA G tm x with
    | none => simp [hx] at h
    | some a => simp only [hx] at h; exact hz (unA_ok h (hρ _ _ hx))
  | convert src dst x => rw [ho] at h; unfold execOp; rw [ho]; exact hz (lConv_ok hW hρ h)
  | makeInterface t x => rw [ho] at h; unfold execOp; rw [ho]; exact hz (lIface_ok hρ h)
  | makeFunc fn f c => rw [ho] at h; unfold execOp; rw [ho]; exact hz (lFunc_ok hρ h)
  | slice t x lo hi mx => rw [ho] at h; unfold execOp; rw [ho]; exact hz (lSlice_ok hW hρ h)
  | fieldAddr t x f => rw [ho] at h; unfold execOp; rw [ho]; exact hz (lFieldAddr_ok hρ h)
  | field t x f => rw [ho] at h; unfold execOp; rw [ho]; exact hz (lField_ok hρ h)
  | indexAddr t x i => rw [ho] at h; unfold execOp; rw [ho]; exact hz (lIndexAddr_ok hρ h)
  | index t x i => rw [ho] at h; unfold execOp; rw [ho]; exact hz (lIndex_ok hρ h)
  | lookup t m k ok => rw [ho] at h; unfold execOp; rw [ho]; exact hz (lLookup_ok hW hρ h)
  | typeAssert x xt t ok => rw [ho] at h; unfold execOp; rw [ho]; exact hz (lAssert_ok hρ h)
  | extract t i => rw [ho] at h; unfold execOp; rw [ho]; exact hz (lExtract_ok hρ h)
  | call c => rw [ho] at h; unfold execOp; rw [ho]; exact lCall_ok hW hρ h
  | _ => rw [ho] at h; cases h
end
end Go.Ex
