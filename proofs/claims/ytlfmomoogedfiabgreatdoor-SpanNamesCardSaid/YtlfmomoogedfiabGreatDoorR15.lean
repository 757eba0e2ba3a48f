/- PROVED: stores and maps. Conditions: those in each theorem's own words (the abstract state stands for the world). By an AI agent. -/
import Derived.Test.YtlfmomoogedfiabGreatDoorR14
namespace Go.Ex
open Go.MapKept
/-- something is done, nothing yielded -/
def NU (K : Nat → Prop) (w0 : World) (P : Program) (E : Env) (s : St) (w : World) (m : Sem Unit) (s' : St) : Prop :=
  ∃ w', m.run P w = .ok () w' ∧ WR K w0 E s' w' ∧ Fwd s s'
section
variable {K : Nat → Prop} {w0 : World} {E : Env} {s : St} {w : World} {P : Program} {G : Nat} {tm : Tr AV} {ρ : Operand → Value}

theorem SB.setObj (B : Nat) (o : Obj) : SB B w { w with heap := w.heap.setIfInBounds B o } :=
  ⟨fun k hk => by simp [Ne.symm hk], by simp, rfl, rfl, rfl⟩
/-- a block is written with what the same abstract block stands for -/
theorem WR.touch (hW : WR K w0 E s w) {b : Nat} {x : AObj} {l : Loc} {w' : World} (hE : E b = some l) (hb : s.hp.get b = some x) (hx : x ≠ .dead) (hlo : s.lo ≤ b) (hsb : SB l.B w w') (ho : OR E x l w') : WR K w0 E s w' := by
  have other : ∀ b' l' y, E b' = some l' → s.hp.get b' = some y → y ≠ .dead → b' ≠ b → l'.B ≠ l.B := fun b' l' y h1 h2 h3 hne e =>
    hne (hW.inj b' b l' l y x h1 hE h2 hb h3 hx e)
  refine ⟨?_, hW.inj, ?_, ?_, hW.sep, by rw [hsb.size]; exact hW.size, hW.lonx, hsb.tape.trans hW.tape, hsb.os.trans hW.os, hsb.output.trans hW.output⟩
  · intro b' y l' h1 h2
    by_cases e : b' = b
    · subst e; rw [hE] at h2; cases h2; rw [hb] at h1; cases h1; exact ho
    · by_cases hd : y = .dead
      · subst hd; trivial
      · exact (hW.obj _ _ _ h1 h2).mono (Env.le_refl E) (hsb.heap _ (other _ _ _ h2 h1 hd e))
  · intro b' l' h; obtain ⟨h1, h2⟩ := hW.lt _ _ h; exact ⟨h1, by rw [hsb.size]; exact h2⟩
  · intro B hB
    obtain ⟨h1, h2⟩ := hW.keep B hB
    exact ⟨h1, by rw [hsb.heap B (fun e => hW.sep b l hE hlo (e ▸ hB)), h2]⟩

theorem hStore_ok (hW : WR K w0 E s w) (hρ : OpR E G tm ρ) {t : TypeId} {a x : Operand} {r : HR} (h : hStore P G tm s t a x = some r) :
    ∃ s', r = .skip s' ∧ NU K w0 P E s w (Instr.storeAt t (ρ a) (ρ x)) s' := by
  unfold hStore at h
  split at h
  · rename_i b o ha
    obtain ⟨l, hE, hv⟩ := ptr_inv (hρ _ _ ha)
    split at h
    · rename_i v hx
      split at h
      · rename_i s' hs
        cases h
        obtain ⟨w', h1, h2⟩ := hW.storeT (P := P) hs hE (hρ _ _ hx)
        refine ⟨s', rfl, w', ?_, h2, Fwd.storeT hs⟩
        rw [hv]
        simp [Instr.storeAt, Instr.sureAddr, h1]
      · cases h
    · cases h
  · cases h

/-! ### Maps -/
theorem run_setObj_any {r : Nat} {o o' : Obj} (hb : w.heap[r]? = some o) (hc : ∀ c e f, o ≠ .cells c e f) : (Go.setObj r o').run P w = .ok () { w with heap := w.heap.setIfInBounds r o' } := by
  cases o <;> first | exact absurd rfl (hc _ _ _) | simp [Go.setObj, Sem.run, hb]
theorem WR.setMap (hW : WR K w0 E s w) {r : Nat} {es es2 : List AEnt} {c c2 : Nat} {l : Loc} {es' : Array MapEntry} {s' : St} (hm : Ex.mapAt s r = some (es, c)) (hE : E r = some l)
    (hs : Ex.setObj s r (.map es2 c2) = some s') (hr : ERs E es2 es'.toList) :
    (Go.setObj l.B (.map es' c2)).run P w = .ok () { w with heap := w.heap.setIfInBounds l.B (.map es' c2) } ∧ WR K w0 E s' { w with heap := w.heap.setIfInBounds l.B (.map es' c2) } := by
  obtain ⟨hb, h0, es0, h1, h2⟩ := hW.mapAt hm hE
  refine ⟨run_setObj_any h1 (by simp), hW.write hE hb (by simp) hs (SB.setObj _ _) ⟨h0, es', ?_, hr⟩⟩
  exact (heap_set h1).1
theorem hMapUpdate_ok (hW : WR K w0 E s w) (hρ : OpR E G tm ρ) {t : TypeId} {m k x : Operand} {r : HR} (h : hMapUpdate P G tm s t m k x = some r) :
    ∃ s', r = .skip s' ∧ NU K w0 P E s w (Instr.mapUpdate t (ρ m) (ρ k) (ρ x)) s' := by
  unfold hMapUpdate at h
  split at h
  · rename_i kt e b kk xx hu hm hk hx
    split at h
    · rename_i es c hma
      replace h := bif_some h; obtain ⟨hok, h⟩ := h
      split at h
      · rename_i hf
        split at h
        · rename_i s' hs
          cases h
          obtain ⟨l, hE, hv⟩ := map_inv (hρ _ _ hm)
          have hkv := hρ _ _ hk
          obtain ⟨_, h0, es', h1, h2⟩ := hW.mapAt hma hE
          obtain ⟨r', f1, f2⟩ := findK_ok (w := w) hok hkv hf h2
          cases r' with
          | some y => exact f2.elim
          | none =>
            have hchk := keyOK_check (w := w) (E := E) hok hkv false 9998
            have hg : (getObj l.B).run P w = .ok (.map es' c) w := by simp [getObj, Sem.run, h1]
            obtain ⟨g1, g2⟩ := hW.setMap (P := P) (es' := es'.push { key := ρ k, val := ρ x, born := c }) hma hE hs (by
              rw [Array.toList_push]
              exact h2.append (.cons _ _ _ _ ⟨hkv, hρ _ _ hx, rfl⟩ .nil))
            refine ⟨s', rfl, _, ?_, g2, Fwd.set hs⟩
            rw [hv]
            simp only [Instr.mapUpdate, Sem.run_bind, run_underlying hu, Result.andThen_ok, hg, hchk, f1]
            exact g1
        · cases h
      · cases h
    · cases h
  · cases h
theorem hMapEntry_ok (hW : WR K w0 E s w) (hρ : OpR E G tm ρ) {t : TypeId} {m k : Operand} {r : HR} (h : hMapEntry P G tm s t m k = some r) :
    ∃ v s', r = .val v s' ∧ NV K w0 P E s w (Instr.mapEntry t (ρ m) (ρ k)) v s' := by
  unfold hMapEntry at h
  split at h
  · rename_i kt e b kk hu hm hk
    split at h
    · rename_i es c z hma hz
      replace h := bif_some h; obtain ⟨hok, h⟩ := h
      split at h
      · rename_i hf
        split at h
        · rename_i s' hs
          cases h
          obtain ⟨l, hE, hv⟩ := map_inv (hρ _ _ hm)
          have hkv := hρ _ _ hk
          obtain ⟨_, h0, es', h1, h2⟩ := hW.mapAt hma hE
          obtain ⟨r', f1, f2⟩ := findK_ok (w := w) hok hkv hf h2
          obtain ⟨zv, z1, z2, _⟩ := run_zeroValue hz
          cases r' with
          | some y => exact f2.elim
          | none =>
            have hchk := keyOK_check (w := w) (E := E) hok hkv false 9998
            have hg : (getObj l.B).run P w = .ok (.map es' c) w := by simp [getObj, Sem.run, h1]
            obtain ⟨g1, g2⟩ := hW.setMap (P := P) (es' := es'.push { key := ρ k, val := zv, born := c }) hma hE hs (by
              rw [Array.toList_push]
              exact h2.append (.cons _ _ _ _ ⟨hkv, z2 E, rfl⟩ .nil))
            refine ⟨_, s', rfl, E, .tuple #[zv, .int .i64 (c : Int)], _, ?_, Grow.refl _ E, .tuple _ _ (.cons _ _ _ _ (z2 E) (.cons _ _ _ _ (.int _ _) .nil)), g2, Fwd.set hs⟩
            rw [hv]
            simp only [Instr.mapEntry, Sem.run_bind, run_underlying hu, Result.andThen_ok, hg, hchk, f1, z1, g1, Sem.run_pure, goInt]
        · cases h
      · cases h
    · cases h
  · cases h
theorem setVal_ok {b : Nat} {x : AV} {v : Value} (hx : VR E x v) : ∀ {es es2 : List AEnt} {es' : List MapEntry}, setVal b x es = some es2 → ERs E es es' →
    ∃ i, es'.findIdx? (fun e => (e.born : Int) == (b : Int)) = some i ∧ ERs E es2 (es'.modify i fun e => { e with val := v }) := by
  intro es
  induction es with
  | nil => intro es2 es' h he; simp [setVal] at h
  | cons e es ih =>
    intro es2 es' h he
    cases he with
    | cons _ e' _ es' he ht =>
      simp only [setVal] at h
      split at h
      · rename_i hb
        cases h
        refine ⟨0, ?_, ?_⟩
        · have : e'.born = b := by rw [← he.born, hb]
          simp [List.findIdx?_cons, this]
        · exact .cons _ _ _ _ ⟨he.key, hx, he.born⟩ ht
      · rename_i hb
        split at h
        · rename_i r hr
          cases h
          obtain ⟨i, h1, h2⟩ := ih hr ht
          refine ⟨i + 1, ?_, .cons _ _ _ _ he h2⟩
          have : ((e'.born : Int) == (b : Int)) = false := by
            have : e'.born ≠ b := by rw [← he.born]; exact hb
            simp; omega
          rw [List.findIdx?_cons, this, h1]; rfl
        · cases h
theorem arr_findIdx (es : Array MapEntry) (p : MapEntry → Bool) : es.findIdx? p = es.toList.findIdx? p := by
  obtain ⟨l⟩ := es
  simp
theorem hEntryStore_ok (hW : WR K w0 E s w) (hρ : OpR E G tm ρ) {t : TypeId} {m st x : Operand} {r : HR} (h : hEntryStore G tm s m st x = some r) :
    ∃ s', r = .skip s' ∧ NU K w0 P E s w (Instr.entryStore t (ρ m) (ρ st) (ρ x)) s' := by
  unfold hEntryStore at h
  split at h
  · rename_i b k n xx hm hst hx
    split at h
    · rename_i es c hma
      split at h
      · rename_i es2 hes
        split at h
        · rename_i s' hs
          cases h
          obtain ⟨l, hE, hv⟩ := map_inv (hρ _ _ hm)
          obtain ⟨_, h0, es', h1, h2⟩ := hW.mapAt hma hE
          obtain ⟨i, i1, i2⟩ := setVal_ok (hρ _ _ hx) hes h2
          have hg : (getObj l.B).run P w = .ok (.map es' c) w := by simp [getObj, Sem.run, h1]
          obtain ⟨g1, g2⟩ := hW.setMap (P := P) (es' := es'.modify i fun e => { e with val := ρ x }) hma hE hs (by
            rw [Array.toList_modify]; exact i2)
          have hi : es'.findIdx? (fun e => (e.born : Int) == (n : Int)) = some i := by
            rw [← i1, arr_findIdx]
          refine ⟨s', rfl, _, ?_, g2, Fwd.set hs⟩
          rw [hv, int_inv (hρ _ _ hst)]
          simp only [Instr.entryStore, Sem.run_bind, Result.andThen_ok, hg, asInt, asIntOf, Sem.run_pure, Int.ofNat_eq_natCast, hi]
          exact g1
        · cases h
      · cases h
    · cases h
  · cases h
theorem eraseA_ok : ∀ {es : List AEnt} {es' : List MapEntry} {i : Nat}, ERs E es es' → ERs E (eraseA es i) (es'.eraseIdx i) := by
  intro es
  induction es with
  | nil => intro es' i h; cases h; cases i <;> exact .nil
  | cons e es ih =>
    intro es' i h
    cases h with
    | cons _ e' _ es' he ht =>
      cases i with
      | zero => exact ht
      | succ i => exact .cons _ _ _ _ he (ih ht)
theorem erase_toList (es : Array MapEntry) (i : Nat) : (es.eraseIdxIfInBounds i).toList = es.toList.eraseIdx i := by
  unfold Array.eraseIdxIfInBounds
  split
  · rw [Array.toList_eraseIdx]
  · rename_i h
    rw [List.eraseIdx_of_length_le (by simpa using h)]
theorem set_same {r : Nat} {o : Obj} (h : w.heap[r]? = some o) : { w with heap := w.heap.setIfInBounds r o } = w := by
  have : w.heap.setIfInBounds r o = w.heap := by
    apply Array.ext_getElem?
    intro i
    rw [Array.getElem?_setIfInBounds]
    split
    · rename_i e; subst e
      split
      · exact h.symm
      · rename_i hn; rw [Array.getElem?_eq_none (by omega)]
    · rfl
  rw [this]
theorem hDelete_ok (hW : WR K w0 E s w) (hρ : OpR E G tm ρ) {args : List Operand} {ts : Array TypeId} {ty : TypeId} {r : HR} (h : hDelete P G tm s args ts.toList = some r) :
    ∃ v s', r = .val v s' ∧ NV K w0 P E s w (Builtin.delete_ ts ty ⟨args.map ρ⟩) v s' := by
  obtain ⟨ts⟩ := ts
  unfold hDelete at h
  split at h
  · rename_i b kk t ts hev hts
    have hvs := evs_ok hρ hev
    generalize args.map ρ = vs at hvs
    cases hvs with
    | cons _ mv _ vs h1 h2 =>
    cases h2 with
    | cons _ kv _ vs hkv h3 =>
    cases h3
    subst hts
    split at h
    · rename_i kt e es c hu hma
      replace h := bif_some h; obtain ⟨hok, h⟩ := h
      obtain ⟨l, hE, rfl⟩ := map_inv h1
      obtain ⟨_, h0, es', g1, g2⟩ := hW.mapAt hma hE
      have hg : (getObj l.B).run P w = .ok (.map es' c) w := by simp [getObj, Sem.run, g1]
      have hchk := keyOK_check (w := w) (E := E) hok hkv es'.isEmpty 9998
      split at h
      · rename_i i x hf
        split at h
        · rename_i s' hs
          cases h
          obtain ⟨r', f1, f2⟩ := findK_ok (w := w) hok hkv hf g2
          cases r' with
          | none => exact f2.elim
          | some y =>
            obtain ⟨j, v⟩ := y
            obtain ⟨rfl, _⟩ := f2
            obtain ⟨k1, k2⟩ := hW.setMap (P := P) (es' := es'.eraseIdxIfInBounds i) hma hE hs (by rw [erase_toList]; exact eraseA_ok g2)
            refine ⟨_, s', rfl, E, .tuple #[], _, ?_, Grow.refl _ E, .tuple _ _ .nil, k2, Fwd.set hs⟩
            simp only [Builtin.delete_, List.getElem?_toArray, List.getElem?_cons_zero, List.getElem?_cons_succ, Sem.run_bind, run_underlying hu, Result.andThen_ok, hg, hchk, f1, k1, Sem.run_pure]
        · cases h
      · rename_i hf
        cases h
        obtain ⟨r', f1, f2⟩ := findK_ok (w := w) hok hkv hf g2
        cases r' with
        | some y => exact f2.elim
        | none =>
          refine ⟨_, s, rfl, E, .tuple #[], w, ?_, Grow.refl _ E, .tuple _ _ .nil, hW, Fwd.refl _⟩
          simp only [Builtin.delete_, List.getElem?_toArray, List.getElem?_cons_zero, List.getElem?_cons_succ, Sem.run_bind, run_underlying hu, Result.andThen_ok, hg, hchk, f1, run_setObj_any g1 (o' := .map es' c) (by simp), set_same g1, Sem.run_pure]
      · cases h
    · cases h
  · cases h
end
end Go.Ex
