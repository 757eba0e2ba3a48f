/- PROVED: the executor is sound: what it foretells of a call, the model does, whatever the tape says. Conditions: those in each theorem's own words (the abstract state stands for the world). By an AI agent. -/
import Derived.Test.YtlfmomoogedfiabGreatDoorR28
namespace Go.Ex
section
variable {K : Nat → Prop} {w0 : World} {P : Program} {G : Nat} {ext : FuncId → Option Ext}
variable {memo : FuncId → List AV → St → Option (AV × St)} {rec : Task → Out}

/-- how a call ends, by what was foretold -/
def OutR (K : Nat → Prop) (w0 : World) (E : Env) (s : St) : Out → Ending → World → Prop
  | .ret v _ s', e, w' => RetR K w0 E s v s' e w'
  | .pan v s', e, w' => PanR K w0 E s v s' e w'
  | _, _, _ => False
theorem finish_ok (hX : ExtOK P ext) (hR : RecOK K w0 P G rec) {fn : Func} {E0 E : Env} {s0 s : St} {a : AAct} {act : Act} {w : World} {u : AMode} {m : FrameMode} {out : Out}
    (h : finish P fn a (leave P ext rec a.df u s) = out) (hno : out ≠ .no) (hU : MR E u m) (hW : WR K w0 E s w) (hG : Glob E G) (hA : AR E noX a act) (hg : Grow s0.nx E0 E) (hf : Fwd s0 s) :
    Leaves P fn act.tmps (OutR K w0 E0 s0 out) act.defers m w := by
  cases hl : leave P ext rec a.df u s with
  | none => rw [hl] at h; simp only [finish] at h; exact absurd h.symm hno
  | some us =>
    obtain ⟨u', s'⟩ := us
    rw [hl] at h
    refine leave_ok hX hR hl hA.df hU hW hG hA fun E' m' w' g1 g2 g3 g4 g5 => ?_
    cases u' with
    | ret =>
      simp only [finish] at h
      split at h
      · rename_i v hv
        subst h
        have : m' = .returning := g2
        subst this
        obtain ⟨z, h1, h2⟩ := resA_ok (P := P) g3 g5 hv
        exact ⟨z, h1, E', z, rfl, hg.trans g1 hf.nx, h2, g3, hf.trans g4⟩
      · exact absurd h.symm hno
    | pan v r =>
      obtain ⟨z, rfl, hz⟩ := g2
      cases r with
      | true => simp only [finish] at h; exact absurd h.symm hno
      | false =>
        simp only [finish] at h
        subst h
        exact ⟨E', z, rfl, hg.trans g1 hf.nx, hz, g3, hf.trans g4⟩
theorem call_ok (hm : P.follows .mixedOrders = true) (hX : ExtOK P ext) (hM : MemoOK K w0 P G memo) (hR : RecOK K w0 P G rec) {f : FuncId} {args : List AV} {s : St} {out : Out}
    (h : F P G ext memo rec (.call f args s) = out) (hno : out ≠ .no) {E : Env} {w : World} {vs : List Value} (hW : WR K w0 E s w) (hG : Glob E G) (hv : VRs E args vs) : Calls P f ⟨vs⟩ w (OutR K w0 E s out) := by
  simp only [F] at h
  split at h
  · exact absurd h.symm hno
  · rename_i fn hf
    split at h
    · exact absurd h.symm hno
    · rename_i c hb
      cases hn : Nat.ble args.length fn.ntmps with
      | false => rw [hn] at h; exact absurd h.symm hno
      | true =>
        rw [hn] at h
        simp only [cond_true] at h
        refine calls_of_wp_defers hf hb ?_
        have hA := AR.init (d := depth fn.ntmps) hv hn
        have hx : doCode P G ext memo rec c ⟨initA args 0 (Tr.room (depth fn.ntmps)), fn.ntmps, []⟩ s ≠ .no := fun e => by rw [e] at h; exact hno h.symm
        refine wp_mono (doCode_ok hm hX hM hR c rfl hx hW hG hA) fun e act' w' hq => ?_
        cases hc : doCode P G ext memo rec c ⟨initA args 0 (Tr.room (depth fn.ntmps)), fn.ntmps, []⟩ s with
        | no => exact absurd hc hx
        | norm a' s' =>
          rw [hc] at hq h
          obtain ⟨rfl, E', g1, g2, g3, g4⟩ := hq
          exact finish_ok hX hR h hno (show MR E' .ret .returning from rfl) g3 (hG.mono g1.le) g2 g1 g4
        | exit id a' s' => rw [hc] at h; exact absurd h.symm hno
        | ret a' s' =>
          rw [hc] at hq h
          obtain ⟨rfl, E', g1, g2, g3, g4⟩ := hq
          exact finish_ok hX hR h hno (show MR E' .ret .returning from rfl) g3 (hG.mono g1.le) g2 g1 g4
        | pan v a' s' =>
          rw [hc] at hq h
          obtain ⟨E', z, rfl, hz, g1, g2, g3, g4⟩ := hq
          exact finish_ok hX hR h hno (show MR E' (.pan v false) _ from ⟨z, rfl, hz⟩) g3 (hG.mono g1.le) g2 g1 g4
theorem dcall_ok (hm : P.follows .mixedOrders = true) (hX : ExtOK P ext) (hM : MemoOK K w0 P G memo) (hR : RecOK K w0 P G rec) {f : FuncId} {args : List AV} {u u' : AMode} {s s' : St} {v : AV}
    (h : F P G ext memo rec (.dcall f args u s) = .ret v u' s') {E : Env} {w : World} {vs : List Value} {m : FrameMode} (hW : WR K w0 E s w) (hG : Glob E G) (hv : VRs E args vs) (hU : MR E u m) :
    CallsD P f ⟨vs⟩ m w (fun e m' w' => ∃ E' z, e = .returned z ∧ Grow s.nx E E' ∧ VR E' v z ∧ WR K w0 E' s' w' ∧ Fwd s s' ∧ MR E' u' m') := by
  simp only [F] at h
  split at h
  · cases h
  · rename_i fn hf
    split at h
    · cases h
    · rename_i c hb
      cases hn : Nat.ble args.length fn.ntmps with
      | false => rw [hn] at h; cases h
      | true =>
        rw [hn] at h
        simp only [cond_true] at h
        refine callsD_of_wpS hf hb fun c₀ cs hmode => ?_
        have hA := AR.init (d := depth fn.ntmps) hv hn
        have hx : doCodeS P G ext memo rec c ⟨initA args 0 (Tr.room (depth fn.ntmps)), fn.ntmps, []⟩ u s ≠ .no := fun e => by rw [e] at h; cases h
        have hc0 : ({ c₀ with mode := m } : Frame) = c₀ := by subst hmode; rfl
        have hw := doCodeS_ok (c0 := c₀) (cs := cs) hm hX hM hR c rfl hx hW hG hA hU
        rw [hc0] at hw
        refine wpS_mono hw fun e act' cs' w' hq => ?_
        cases hc : doCodeS P G ext memo rec c ⟨initA args 0 (Tr.room (depth fn.ntmps)), fn.ntmps, []⟩ u s with
        | no => exact absurd hc hx
        | norm a' u2 s2 =>
          rw [hc] at hq h
          obtain ⟨rfl, E', m', rfl, g0, g1, g2, g3, g4⟩ := hq
          simp only at h
          split at h
          · rename_i hdf
            split at h
            · rename_i v' hv'
              cases h
              obtain ⟨z, h1, h2⟩ := resA_ok (P := P) g3 g2 hv'
              have hd : act'.defers = [] := by
                have := g2.df
                rw [hdf] at this
                generalize act'.defers = ds at this
                cases this; rfl
              exact ⟨hd, m', rfl, z, h1, E', z, rfl, g1, h2, g3, g4, g0⟩
            · cases h
          · cases h
        | ret a' u2 s2 =>
          rw [hc] at hq h
          obtain ⟨rfl, E', m', rfl, g0, g1, g2, g3, g4⟩ := hq
          simp only at h
          split at h
          · rename_i hdf
            split at h
            · rename_i v' hv'
              cases h
              obtain ⟨z, h1, h2⟩ := resA_ok (P := P) g3 g2 hv'
              have hd : act'.defers = [] := by
                have := g2.df
                rw [hdf] at this
                generalize act'.defers = ds at this
                cases this; rfl
              exact ⟨hd, m', rfl, z, h1, E', z, rfl, g1, h2, g3, g4, g0⟩
            · cases h
          · cases h
/-- the executor foretells what the model does -/
theorem run_ok (hm : P.follows .mixedOrders = true) (hX : ExtOK P ext) (hM : MemoOK K w0 P G memo) (n : Nat) : RecOK K w0 P G (run P G ext memo n) := by
  induction n using Nat.strongRecOn with
  | _ n ih =>
    cases n with
    | zero => exact ⟨fun f args s v u s' h => (by cases h), fun f args s v s' h => (by cases h), fun b a s c h => (by cases h), fun f args u s v u' s' h => (by cases h)⟩
    | succ n =>
      have hR := ih n (by omega)
      refine ⟨fun f args s v u s' h E w vs hW hG hv => ?_, fun f args s v s' h E w vs hW hG hv => ?_, fun b a s c h hno E w act hW hG hA => ?_, fun f args u s v u' s' h E w vs m hW hG hv hU => ?_⟩
      · exact call_ok hm hX hM hR h (by simp) hW hG hv
      · exact call_ok hm hX hM hR h (by simp) hW hG hv
      · -- a loop: the fuel sinks
        let J : Nat → Act → World → Prop := fun k act' w' => k ≤ n + 1 ∧ ∃ a' s' E', run P G ext memo k (.loop b a' s') = .code c ∧ WR K w0 E' s' w' ∧ Glob E' G ∧ AR E' noX a' act' ∧ Grow s.nx E E' ∧ Fwd s s'
        let I : Act → World → Prop := fun act' w' => ∃ k, J k act' w'
        have hex : ∃ μ : Act → World → Nat, ∀ act' w', I act' w' → J (μ act' w') act' w' ∧ ∀ k, J k act' w' → μ act' w' ≤ k := by
          have : ∀ act' w', ∃ m, I act' w' → J m act' w' ∧ ∀ k, J k act' w' → m ≤ k := by
            intro act' w'
            by_cases hI : I act' w'
            · obtain ⟨k, hk⟩ := hI
              have : ∀ k, J k act' w' → ∃ m, J m act' w' ∧ ∀ k, J k act' w' → m ≤ k := by
                intro k
                induction k using Nat.strongRecOn with
                | _ k ihk =>
                  intro hk
                  by_cases hs : ∃ j, j < k ∧ J j act' w'
                  · obtain ⟨j, hj, hJ⟩ := hs; exact ihk j hj hJ
                  · exact ⟨k, hk, fun j hj => Nat.not_lt.1 fun hlt => hs ⟨j, hlt, hj⟩⟩
              obtain ⟨m, h1, h2⟩ := this k hk
              exact ⟨m, fun _ => ⟨h1, h2⟩⟩
            · exact ⟨0, fun h => absurd h hI⟩
          exact ⟨fun a w => (this a w).choose, fun a w => (this a w).choose_spec⟩
        obtain ⟨μ, hμ⟩ := hex
        refine wp_loop I μ ⟨n + 1, Nat.le_refl _, a, s, E, h, hW, hG, hA, Grow.refl _ _, Fwd.refl _⟩ fun act1 w1 hI => ?_
        obtain ⟨hJ, hmin⟩ := hμ act1 w1 hI
        generalize hk : μ act1 w1 = k at hJ hmin
        obtain ⟨hkn, a1, s1, E1, hrun, hW1, hG1, hA1, hg1, hf1⟩ := hJ
        cases k with
        | zero => cases hrun
        | succ k =>
          have hRk := ih k (by omega)
          have hF : F P G ext memo (run P G ext memo k) (.loop b a1 s1) = .code c := hrun
          simp only [F] at hF
          have hx : doCode P G ext memo (run P G ext memo k) b a1 s1 ≠ .no := fun e => by rw [e] at hF; cases hF; exact hno rfl
          refine wp_mono (doCode_ok hm hX hM hRk b rfl hx hW1 hG1 hA1) fun e act2 w2 hq => ?_
          cases hc : doCode P G ext memo (run P G ext memo k) b a1 s1 with
          | no => exact absurd hc hx
          | norm a2 s2 =>
            rw [hc] at hq hF
            obtain ⟨rfl, E2, g1, g2, g3, g4⟩ := hq
            have hJ2 : J k act2 w2 := ⟨by omega, a2, s2, E2, hF, g3, hG1.mono g1.le, g2, hg1.trans g1 hf1.nx, hf1.trans g4⟩
            exact ⟨⟨k, hJ2⟩, by have := (hμ act2 w2 ⟨k, hJ2⟩).2 k hJ2; omega⟩
          | exit id a2 s2 => rw [hc] at hq hF; cases hF; obtain ⟨rfl, hq⟩ := hq; exact CRP.trans (r := .exit id a2 s2) (e := .exit id) (K := K) (w0 := w0) hg1 hf1 ⟨rfl, hq⟩
          | ret a2 s2 => rw [hc] at hq hF; cases hF; obtain ⟨rfl, hq⟩ := hq; exact CRP.trans (r := .ret a2 s2) (e := .ret) (K := K) (w0 := w0) hg1 hf1 ⟨rfl, hq⟩
          | pan v a2 s2 => rw [hc] at hq hF; cases hF; obtain ⟨E', z, rfl, hq⟩ := hq; exact CRP.trans (r := .pan v a2 s2) (K := K) (w0 := w0) hg1 hf1 ⟨E', z, rfl, hq⟩
      · exact dcall_ok hm hX hM hR h hW hG hv hU
end
end Go.Ex
