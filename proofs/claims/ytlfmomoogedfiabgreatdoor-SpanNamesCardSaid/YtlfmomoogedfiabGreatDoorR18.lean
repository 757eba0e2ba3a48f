/- PROVED: every heavy operation. Conditions: those in each theorem's own words (the abstract state stands for the world). By an AI agent. -/
import Derived.Test.YtlfmomoogedfiabGreatDoorR17
namespace Go.Ex
open Go.MapKept
section
variable {K : Nat → Prop} {w0 : World} {E : Env} {s : St} {w : World} {P : Program} {G : Nat} {tm : Tr AV} {ρ : Operand → Value} {ext : FuncId → Option Ext}

/-! ### Calls -/
theorem callFn_ok (hX : ExtOK P ext) (hW : WR K w0 E s w) {f : FuncId} {args : List AV} {vs : List Value} {r : HR} (h : callFn P ext f args s = some r) (hv : VRs E args vs) :
    HOK K w0 P E s w (callFunc f ⟨vs⟩) r := by
  unfold callFn at h
  cases hf : P.funcs[f]? with
  | none => rw [hf] at h; cases h
  | some fn =>
    rw [hf] at h
    simp only at h
    cases hb : fn.body with
    | some c =>
      rw [hb] at h
      simp only at h
      split at h
      · cases h
      · rename_i hn
        cases h
        refine ⟨vs, ?_, hv⟩
        have hn' : ¬ fn.name = "runtime.NumGoroutine" := by simpa using hn
        simp [callFunc, hf, hb, hn']
    | none =>
      rw [hb] at h
      simp only at h
      split at h
      · rename_i e he
        obtain ⟨hn, hx, g, hg, hs⟩ := hX f e fn he hf
        obtain ⟨v, s', rfl, E', z, w', h1, h2, h3, h4, h5⟩ := extA_ok (P := P) hW hs h hv
        refine ⟨E', z, w', ?_, h2, h3, h4, h5⟩
        have hn' : ¬ fn.name = "runtime.NumGoroutine" := by simpa using hn
        simp [callFunc, hf, hb, hn', hx, hg, h1]
      · cases h
theorem run_method {n : Nat} {t : TypeId} {v : Value} {name : String} {i : TypeInfo} {m : Method} {f : FuncId} {e : TypeId} (hi : P.info? t = some i) (hm : i.methods.find? (·.name == name) = some m)
    (hp : m.path.isEmpty = true) (hf : m.func = some (f, true)) (hu : P.underlying t = some (.pointer e)) : (method (n + 1) t v name).run P w = .ok (f, v) w := by
  have hp' : m.path.toList = [] := by
    have := Array.isEmpty_iff.1 hp
    rw [this]
  unfold method
  simp only [Sem.run_bind, run_typeInfo hi, Result.andThen_ok, hm, hp', follow, Sem.run_pure, hf, receiverAt, run_underlying hu, Place.get]
theorem invokeA_ok (hX : ExtOK P ext) (hW : WR K w0 E s w) {fn : Fn} {cap args : List AV} {cv av : List Value} {r : HR} (h : invokeA P ext fn cap args s = some r) (hc : VRs E cap cv) (ha : VRs E args av) :
    HOK K w0 P E s w (invoke (.fn fn ⟨cv⟩) ⟨av⟩) r := by
  unfold invokeA at h
  split at h
  · rename_i f
    have := callFn_ok hX hW h (ha.append hc)
    have e : (⟨av⟩ : Array Value) ++ ⟨cv⟩ = ⟨av ++ cv⟩ := by simp
    unfold invoke
    simp only [e]
    exact this
  · rename_i name
    split at h
    · rename_i t v rest
      cases ha with
      | cons _ rv _ av hr ht =>
        obtain ⟨v', rfl, hv'⟩ := iface_inv hr
        split at h
        · rename_i i hi
          split at h
          · rename_i m hm
            split at h
            · rename_i f e hp hf hu
              have hcall := callFn_ok hX hW h (.cons _ _ _ _ hv' ht)
              have hmeth := run_method (w := w) (n := P.types.size + (Made.depth - 1)) (v := v') hi hm hp hf hu
              have e1 : P.types.size + (Made.depth - 1) + 1 = P.types.size + Made.depth := by rfl
              rw [e1] at hmeth
              unfold invoke
              have e2 : (⟨.iface t v' :: av⟩ : Array Value).extract 1 (⟨.iface t v' :: av⟩ : Array Value).size = ⟨av⟩ := by
                apply Array.ext'
                simp
              have e3 : (#[v'] : Array Value) ++ ⟨av⟩ = ⟨v' :: av⟩ := by simp
              have key : ∀ m : Sem Next, (m.run P w = (callFunc f ⟨v' :: av⟩).run P w) → HOK K w0 P E s w m r := by
                intro m hm
                cases r with
                | _ => simp only [HOK, hm] at hcall ⊢; exact hcall
              apply key
              simp only [List.getElem?_toArray, List.getElem?_cons_zero, e2, callMethod, Sem.run_bind, run_program, Result.andThen_ok, hmeth, e3]
            · cases h
          · cases h
        · cases h
    · cases h
  · cases h
theorem resolveA_ok (hρ : OpR E G tm ρ) {c : Call} {ty : TypeId} {d : ADef} (h : resolveA G tm c = some d) :
    ∃ d', (resolve ρ c ty).run P w = .ok d' w ∧ DR E d d' := by
  obtain ⟨callee, ⟨args⟩, ats⟩ := c
  unfold resolveA at h
  split at h
  · cases h
  rename_i as has
  have hvs := evs_ok hρ has
  have hm : (⟨args⟩ : Array Operand).map ρ = ⟨args.map ρ⟩ := by simp
  simp only at hvs
  split at h
  · rename_i f hc
    split at h
    · rename_i fn first cap hf
      cases h
      obtain ⟨fv, cv, he, h1, h2⟩ := fn_inv (hρ _ _ hf)
      refine ⟨{ target := .fn fn ⟨cv⟩, args := ⟨fv ++ args.map ρ⟩ }, ?_, cv, fv ++ args.map ρ, rfl, h2, h1.append hvs⟩
      simp only at hc
      subst hc
      simp [resolve, he, Deferred.ofValue]
    · cases h
  · rename_i recv name hc
    split at h
    · rename_i v hv
      cases h
      simp only at hc
      subst hc
      refine ⟨{ target := .fn (.method name) ⟨[]⟩, args := ⟨ρ recv :: args.map ρ⟩ }, ?_, [], _, rfl, .nil, .cons _ _ _ _ (hρ _ _ hv) hvs⟩
      simp [resolve]
    · cases h
  · cases h
theorem HOK.of_run {m m' : Sem Next} {r : HR} (h : HOK K w0 P E s w m r) (hm : m'.run P w = m.run P w) : HOK K w0 P E s w m' r := by
  cases r with
  | _ => simp only [HOK, hm] at h ⊢; exact h
theorem hCall_ok (hX : ExtOK P ext) (hW : WR K w0 E s w) (hρ : OpR E G tm ρ) {c : Call} {ty : TypeId} {r : HR} (h : hCall P G ext tm s c = some r) :
    HOK K w0 P E s w (do let d ← resolve ρ c ty; invoke d.target d.args) r := by
  have viaR : ∀ d, resolveA G tm c = some d → invokeA P ext d.fn d.cap d.args s = some r → HOK K w0 P E s w (do let d ← resolve ρ c ty; invoke d.target d.args) r := by
    intro d hd h
    obtain ⟨d', h1, cap, args, rfl, h2, h3⟩ := resolveA_ok (P := P) (w := w) (ty := ty) hρ hd
    exact (invokeA_ok hX hW h h2 h3).of_run (by rw [Sem.run_bind, h1]; rfl)
  unfold hCall at h
  split at h
  · rename_i b hc
    have hb : ∀ m : Sem Next, HOK K w0 P E s w m r → (∀ w, (builtin b c.argTypes ty (c.args.map fun | .const _ => true | _ => false) ⟨c.args.toList.map ρ⟩).run P w = m.run P w) →
        HOK K w0 P E s w (do let d ← resolve ρ c ty; invoke d.target d.args) r := by
      intro m hm he
      refine hm.of_run ?_
      rw [← he w]
      have hmm : c.args.map ρ = ⟨c.args.toList.map ρ⟩ := by apply Array.ext'; simp
      simp only [resolve, hc, Sem.run_bind, Sem.run_pure, Result.andThen_ok, invoke, hmm]
      rfl
    split at h
    · unfold hAppend at h
      split at h
      · rename_i v x hev
        have hvs := evs_ok hρ hev
        split at h
        · rename_i v' s' ha
          cases h
          generalize hg : c.args.toList.map ρ = vs at hvs
          cases hvs with
          | cons _ v1 _ vs h1 ht =>
          cases ht with
          | cons _ v2 _ vs h2 ht =>
          cases ht
          exact hb _ (HOK.nv (appendA_ok (ty := ty) hW ha h1 h2)) (fun w => by rw [hg]; rfl)
        · cases h
      · cases h
    · obtain ⟨v, s', rfl, hn⟩ := hCopy_ok (P := P) (ty := ty) hW hρ h
      exact hb _ (HOK.nv hn) (fun w => rfl)
    · obtain ⟨v, s', rfl, hn⟩ := hDelete_ok (P := P) (ty := ty) hW hρ h
      exact hb _ (HOK.nv hn) (fun w => rfl)
    · cases h
      exact hb (pure .recover) (by simp [HOK]) (fun w => rfl)
    · cases h
  · split at h
    · rename_i d hd
      exact viaR d hd h
    · cases h
/-- heavy operations -/
theorem execH_ok (hX : ExtOK P ext) (hW : WR K w0 E s w) (hρ : OpR E G tm ρ) {o : Oper} {r : HR} (h : execH P G ext tm s o.op = some r) :
    HOK K w0 P E s w (execOp ρ o) r := by
  unfold execH at h
  cases ho : o.op with
  | store t a x =>
    rw [ho] at h
    obtain ⟨s', rfl, hn⟩ := hStore_ok (P := P) hW hρ h
    unfold execOp; rw [ho]; exact HOK.nu hn
  | mapUpdate t m k x =>
    rw [ho] at h
    obtain ⟨s', rfl, hn⟩ := hMapUpdate_ok (P := P) hW hρ h
    unfold execOp; rw [ho]; exact HOK.nu hn
  | mapEntry t m k =>
    rw [ho] at h
    obtain ⟨v, s', rfl, hn⟩ := hMapEntry_ok (P := P) hW hρ h
    unfold execOp; rw [ho]; exact HOK.nv hn
  | entryStore t m st x =>
    rw [ho] at h
    obtain ⟨s', rfl, hn⟩ := hEntryStore_ok (P := P) (t := t) hW hρ h
    unfold execOp; rw [ho]; exact HOK.nu hn
  | next it str =>
    rw [ho] at h
    cases str with
    | true => cases h
    | false =>
      obtain ⟨v, s', rfl, hn⟩ := hNext_ok (P := P) (ty := o.type) hW hρ h
      unfold execOp; rw [ho]; exact HOK.nv hn
  | convert src dst x =>
    rw [ho] at h
    obtain ⟨v, s', rfl, hn⟩ := hConv_ok (P := P) hW hρ h
    unfold execOp; rw [ho]; exact HOK.nv hn
  | call c => rw [ho] at h; unfold execOp; rw [ho]; exact hCall_ok hX hW hρ h
  | «defer» c =>
    rw [ho] at h
    simp only [hDefer] at h
    split at h
    · rename_i d hd
      cases h
      obtain ⟨d', h1, h2⟩ := resolveA_ok (P := P) (w := w) (ty := o.type) hρ hd
      unfold execOp; rw [ho]
      exact ⟨d', by simp [h1], h2⟩
    · cases h
  | panic x =>
    rw [ho] at h
    simp only [hPanic] at h
    split at h
    · rename_i t v hx
      cases h
      obtain ⟨v', h1, h2⟩ := iface_inv (hρ _ _ hx)
      unfold execOp; rw [ho]
      exact ⟨.iface t v', by simp [Instr.panic, h1], .iface _ _ _ h2, t, v, rfl⟩
    · cases h
  | _ => rw [ho] at h; cases h
end
end Go.Ex
