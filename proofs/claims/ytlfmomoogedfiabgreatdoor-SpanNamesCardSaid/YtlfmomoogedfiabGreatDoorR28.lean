/- PROVED: results; leaving through deferred calls. Conditions: those in each theorem's own words (the abstract state stands for the world). By an AI agent. -/
import Derived.Test.YtlfmomoogedfiabGreatDoorR27
namespace Go.Ex
section
variable {K : Nat → Prop} {w0 : World} {P : Program} {G : Nat} {ext : FuncId → Option Ext} {ops : Array Oper}
variable {memo : FuncId → List AV → St → Option (AV × St)} {rec : Task → Out}
variable {E E' : Env} {a : AAct} {s s' : St} {act : Act} {w : World}

/-! ### Results -/
def resOf (tmps : Array Value) : ResultVar → Sem Value
  | .tmp t => pure (tmps.getD t undef)
  | .cell a t => do loadVar t (← asAddr (tmps.getD a undef))
theorem resOne_ok (hW : WR K w0 E s w) (hA : AR E noX a act) {r : ResultVar} {v : AV} (h : resOne P a s r = some v) : ∃ z, (resOf act.tmps r).run P w = .ok z w ∧ VR E v z := by
  unfold resOne at h
  cases r with
  | tmp t =>
    simp only at h
    obtain ⟨z, h1, h2⟩ := hA.tm t v h rfl
    exact ⟨z, by simp [resOf, Array.getD_eq_getD_getElem?, h1], h2⟩
  | cell c t =>
    simp only at h
    split at h
    · rename_i b o hc
      obtain ⟨z, h1, h2⟩ := hA.tm c _ hc rfl
      obtain ⟨l, hE, rfl⟩ := ptr_inv h2
      obtain ⟨v', h3, h4⟩ := hW.loadT (P := P) h hE
      exact ⟨v', by simp [resOf, Array.getD_eq_getD_getElem?, h1, asAddr, h3], h4⟩
    · cases h
theorem resAll_ok (hW : WR K w0 E s w) (hA : AR E noX a act) : ∀ {l : List ResultVar} {vs : List AV}, resAll P a s l = some vs →
    ∃ us : List Value, (l.mapM (resOf act.tmps)).run P w = .ok us w ∧ VRs E vs us := by
  intro l
  induction l with
  | nil => intro vs h; simp [resAll] at h; subst h; exact ⟨[], by simp, .nil⟩
  | cons r l ih =>
    intro vs h
    simp only [resAll] at h
    split at h
    · rename_i v hv
      split at h
      · rename_i vs' hvs
        cases h
        obtain ⟨z, h1, h2⟩ := resOne_ok (P := P) hW hA hv
        obtain ⟨us, h3, h4⟩ := ih hvs
        exact ⟨z :: us, by simp [List.mapM_cons, h1, h3], .cons _ _ _ _ h2 h4⟩
      · cases h
    · cases h
theorem resA_ok (hW : WR K w0 E s w) (hA : AR E noX a act) {fn : Func} {v : AV} (h : resA P fn a s = some v) : ∃ z, (results fn act.tmps).run P w = .ok z w ∧ VR E v z := by
  have base : ∀ {vs : List AV}, resAll P a s fn.results.toList = some vs → ∃ us : List Value, (results fn act.tmps).run P w = .ok (if h : us.toArray.size = 1 then us.toArray[0] else .tuple us.toArray) w ∧ VRs E vs us := by
    intro vs hvs
    obtain ⟨us, h1, h2⟩ := resAll_ok (P := P) hW hA hvs
    refine ⟨us, ?_, h2⟩
    have e : results fn act.tmps = (do let vs ← fn.results.mapM (resOf act.tmps); pure (if h : vs.size = 1 then vs[0] else .tuple vs)) := by
      unfold results
      congr
    rw [e, Array.mapM_eq_mapM_toList, Sem.run_bind, Sem.run_map, h1]
    rfl
  unfold resA at h
  split at h
  · rename_i v' hr
    cases h
    obtain ⟨us, h1, h2⟩ := base hr
    cases h2 with
    | cons _ u _ us h2 ht =>
      cases ht
      exact ⟨u, by simpa using h1, h2⟩
  · rename_i vs hne hr
    cases h
    obtain ⟨us, h1, h2⟩ := base hr
    refine ⟨.tuple us.toArray, ?_, .tuple _ _ h2⟩
    have hl := h2.length
    rw [h1, dif_neg]
    intro q
    simp at q
    rw [q] at hl
    match vs, hl with
    | [x], _ => exact hne x rfl
  · cases h
theorem get_initA : ∀ (l : List AV) (k : Nat) (t : Tr AV) (i : Nat), (initA l k t).get i = if k ≤ i ∧ i < k + l.length then l[i - k]? else t.get i := by
  intro l
  induction l with
  | nil => intro k t i; simp [initA]; intro h1 h2; omega
  | cons v l ih =>
    intro k t i
    simp only [initA]
    rw [ih]
    by_cases c : k + 1 ≤ i ∧ i < k + 1 + l.length
    · rw [if_pos c, if_pos (by simp; omega), show i - k = (i - (k + 1)) + 1 by omega]; rfl
    · rw [if_neg c, Tr.get_set]
      by_cases e : i = k
      · subst e; rw [if_pos rfl, if_pos (by simp)]; simp
      · rw [if_neg e, if_neg (by simp; omega)]
theorem AR.init {args : List AV} {vs : List Value} (hv : VRs E args vs) {n d : Nat} (hn : Nat.ble args.length n = true) :
    AR E noX ⟨initA args 0 (Tr.room d), n, []⟩ { tmps := (⟨vs⟩ : Array Value) ++ Array.replicate (n - (⟨vs⟩ : Array Value).size) undef, defers := [] } := by
  have hl := hv.length
  rw [ble_iff] at hn
  refine ⟨fun t x hx _ => ?_, by simp; omega, .nil⟩
  simp only [get_initA, Tr.get_room] at hx
  split at hx
  · rename_i c
    obtain ⟨v, h1, h2⟩ := hv.get hx
    refine ⟨v, ?_, h2⟩
    have : t < (⟨vs⟩ : Array Value).size := by simp; omega
    rw [Array.getElem?_append_left this]
    simpa using h1
  · cases hx
/-! ### Deferred calls -/
theorem leave_ok (hX : ExtOK P ext) (hR : RecOK K w0 P G rec) {fn : Func} {R : Ending → World → Prop} : ∀ {ds : List ADef} {ds' : List Deferred} {u : AMode} {m : FrameMode} {E : Env} {s : St} {w : World} {u' : AMode} {s' : St},
    leave P ext rec ds u s = some (u', s') → DRs E ds ds' → MR E u m → WR K w0 E s w → Glob E G → AR E noX a act →
    (∀ E' m' w', Grow s.nx E E' → MR E' u' m' → WR K w0 E' s' w' → Fwd s s' → AR E' noX a act → Leaves P fn act.tmps R [] m' w') → Leaves P fn act.tmps R ds' m w := by
  intro ds
  induction ds with
  | nil =>
    intro ds' u m E s w u' s' h hd hU hW hG hA k
    cases hd
    simp only [leave] at h
    cases h
    exact k E m w (Grow.refl _ _) hU hW (Fwd.refl _) hA
  | cons d ds ih =>
    intro ds' u m E s w u' s' h hd hU hW hG hA k
    cases hd with
    | cons _ d' _ ds' hd ht =>
    simp only [leave] at h
    split at h
    · rename_i f args hinv
      split at h
      · rename_i v u2 s2 hrec
        obtain ⟨cap, as, rfl, h1, h2⟩ := hd
        obtain ⟨args', g1, g2⟩ := invokeA_ok hX hW hinv h1 h2
        refine leaves_cons ?_ g1 ?_
        · cases u with
          | ret => have : m = .returning := hU; rw [this]; simp
          | pan v r => obtain ⟨z, rfl, _⟩ := hU; simp
        · refine (hR.dcall f args u s v u2 s2 hrec E w args' m hW hG g2 hU).mono fun e m' w' q => ?_
          obtain ⟨E2, z, rfl, q1, q2, q3, q4, q5⟩ := q
          refine ih (u := settleA u2) (m := settle m') h (ht.mono q1.le) ?_ q3 (hG.mono q1.le) (hA.mono q1.le) fun E3 m3 w3 p1 p2 p3 p4 p5 => k E3 m3 w3 (q1.trans p1 q4.nx) p2 p3 (q4.trans p4) p5
          cases u2 with
          | ret => have : m' = .returning := q5; rw [this]; rfl
          | pan v' r =>
            obtain ⟨z', rfl, hz⟩ := q5
            cases r with
            | true => rfl
            | false => exact ⟨z', rfl, hz⟩
      · cases h
    · cases h
end
end Go.Ex
