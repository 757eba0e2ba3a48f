/- PROVED: a region that draws its order: every order ends as foretold. Conditions: those in each theorem's own words (the abstract state stands for the world). By an AI agent. -/
import Derived.Test.YtlfmomoogedfiabGreatDoorR24
namespace Go.Ex
section
variable {K : Nat → Prop} {w0 : World} {P : Program} {G : Nat} {ext : FuncId → Option Ext} {ops : Array Oper}
variable {memo : FuncId → List AV → St → Option (AV × St)} {rec : Task → Out}
variable {s0 : St} {E0 E : Env} {listed : Array Bool} {lm : Nat} {cls : List (Nat × Nat)} {ppend : List PO} {pend : PList} {a : AAct} {s : St} {act : Act} {w : World}

/-- both machines take the one that is ready -/
theorem Sim.heavy (hX : ExtOK P ext) (hM : MemoOK K w0 P G memo) (hR : RecOK K w0 P G rec) (h : Sim K w0 P G ops s0 E0 listed lm cls ppend pend E a s act w) {f : Nat} {steps : List PStep} {r : CR}
    (hpl : planGo P (allP P ops) (f + 1) lm cls ppend = some steps) (hdo : doPlan P G ext memo rec ops steps a s = r) (hno : r ≠ .no) (hp : findLight lm (pendLooks ppend) (allP P ops) = none)
    {j : Nat} {o : Oper} (hj : ops[j]? = some o) (hjl : ¬ L listed j) (hjd : ∀ i, Dep o i → L listed i) (hji : ¬ idx pend j)
    {next : Act → World → Prop} {Q : Exit → Act → World → Prop}
    (k : ∀ steps' a' s' lm' cls' ppend' E' act' w', Sim K w0 P G ops s0 E0 (listed.setIfInBounds j true) lm' cls' ppend' pend E' a' s' act' w' →
      planGo P (allP P ops) f lm' cls' ppend' = some steps' → doPlan P G ext memo rec ops steps' a' s' = r → next act' w') : wpOp P ops Q j next act w := by
  obtain ⟨p, f1, rfl, rfl⟩ := allP_mem (P := P) hj
  have hpo := allP_ok f1
  have hall : ∀ q ∈ ppend, POok P ops q := fun q hq => allP_ok (h.pall q hq)
  have hrd : readyP lm p = true := (readyP_iff hpo).2 ⟨by
    cases hc : lm.testBit p.i with
    | false => rfl
    | true => rcases (h.lms p.i).1 hc with c | c
              · exact absurd c hjl
              · exact absurd c hji, fun i hi => (h.lms i).2 (.inl (hjd i hi))⟩
  simp only [planGo, hp] at hpl
  split at hpl
  · rename_i hr
    have : p ∈ readyAll lm (allP P ops) := readyAll_mem.2 ⟨f1, hrd⟩
    rw [hr] at this; cases this
  · rename_i p' hr
    have : p ∈ readyAll lm (allP P ops) := readyAll_mem.2 ⟨f1, hrd⟩
    rw [hr] at this
    have hpp : p' = p := by
      have : p = p' := by simpa using this
      exact this.symm
    subst hpp
    cases hm1 : meets p'.dm (pendLooks (notIn (closure p'.em cls) ppend)) with
    | true => rw [hm1] at hpl; cases hpl
    | false =>
    cases hm2 : meets p'.lm (pendDsts (closure p'.em cls) ppend) with
    | true => rw [hm1, hm2] at hpl; cases hpl
    | false =>
    rw [hm1, hm2] at hpl
    simp only [Bool.or_false, cond_false] at hpl
    split at hpl
    · rename_i steps' hst
      cases hpl
      simp only [doPlan] at hdo
      have hcl : ∀ i, (closure p'.em cls).testBit i = true → L listed i := closure_sub h.dc (fun i hi => hjd i ((hpo.em i).1 hi)) h.cls
      have hncl : ∀ q ∈ pend, (closure p'.em cls).testBit q.1.i = false := fun q hq => by
        cases hc : (closure p'.em cls).testBit q.1.i with
        | false => rfl
        | true => exact absurd (hcl _ hc) (h.pok.mem q hq).2.1
      have hsub : ∀ q ∈ pend, q.1 ∈ notIn (closure p'.em cls) ppend := fun q hq => notIn_mem (h.sub q hq) (hncl q hq)
      have hseen : Seen (pendX pend) (p'.o.looksAt ops) := fun t ht => by
        rw [pendX_false]
        intro q hq hd
        have h1 := pendDsts_mem hall (h.sub q hq) (hncl q hq) hd
        rw [meets_false hm2 ((hpo.lm t).2 ht)] at h1
        cases h1
      have apart : ∀ q ∈ pend, ∀ d, p'.o.dst = some d → d ∉ q.1.o.looksAt ops ∧ q.1.o.dst ≠ some d := fun q hq d hd => by
        have := meets_false hm1 ((hpo.dm d).2 hd)
        have hall' : ∀ q ∈ notIn (closure p'.em cls) ppend, POok P ops q := fun q hq => hall q (notIn_sub hq)
        refine ⟨fun hl => ?_, fun hl => ?_⟩
        · rw [pendLooks_mem hall' (hsub q hq) (.inl hl)] at this; cases this
        · rw [pendLooks_mem hall' (hsub q hq) (.inr hl)] at this; cases this
      have hjs : p'.i < listed.size := by rw [h.size]; exact (Array.getElem?_eq_some_iff.1 hj).1
      have hL : ∀ i, L (listed.setIfInBounds p'.i true) i ↔ L listed i ∨ i = p'.i := fun i => L_set hjs
      have hLe : L (listed.setIfInBounds p'.i true) = fun i => L listed i ∨ i = p'.i := funext fun i => propext (hL i)
      -- what holds after the step
      have after : ∀ {a' : AAct} {s' : St} {E' : Env} {act' : Act} {w' : World}, a'.nt = a.nt → (∀ t, p'.o.dst ≠ some t → a'.tm.get t = a.tm.get t) → AR E' (pendX pend) a' act' → WR K w0 E' s' w' → Grow s.nx E E' → Fwd s s' →
          (s' = s ∨ ∀ q ∈ notIn (closure p'.em cls) ppend, readsH P q.o.op = true → recheck P G ops a' s' q.o = true) →
          Sim K w0 P G ops s0 E0 (listed.setIfInBounds p'.i true) (Nat.lor lm (Nat.shiftLeft 1 p'.i)) ((p'.i, closure p'.em cls) :: cls) (notIn (closure p'.em cls) ppend) pend E' a' s' act' w' := by
        intro a' s' E' act' w' hnt htm har hwr hg hf hs
        refine ⟨har, hwr, h.glob.mono hg.le, by simp [h.size], fun i => ?_, ?_, by rw [hLe]; exact h.pok.more hji, hsub, fun q hq => h.pall q (notIn_sub hq), fun q hq => ?_, ?_, h.grow.trans hg h.fwd.nx, h.fwd.trans hf, h.lo0⟩
        · rw [lm_set, h.lms, hL]
          constructor
          · rintro ((c | c) | c)
            · exact .inl (.inl c)
            · exact .inr c
            · exact .inl (.inr c)
          · rintro ((c | c) | c)
            · exact .inl (.inl c)
            · exact .inr c
            · exact .inl (.inr c)
        · intro p2 hp2 hi i hd
          rw [hL] at hi ⊢
          rcases hi with hi | hi
          · exact .inl (h.dc p2 hp2 hi i hd)
          · have e : p2.o = p'.o := by
              have e1 := (allP_ok hp2).at_
              have e2 := hpo.at_
              rw [hi, e2] at e1
              exact (Option.some.inj e1).symm
            rw [e] at hd
            exact .inl (hjd i hd)
        · have hpr := h.prom q hq
          refine hpr.keep (fun t ht => htm t fun e => (apart q hq t e).1 ht) (fun d hd => htm d fun e => (apart q hq d e).2 hd) hnt ?_ (fun b' hb' => ?_) hf
          · rcases hs with hs | hs
            · exact .inl hs
            · exact .inr (hs q.1 (hsub q hq))
          · obtain ⟨e1, e2, _⟩ := hpr.noE b' hb'
            rw [hg.old b' e2, e1]
        · intro c hc S hS hi
          rcases List.mem_cons.1 hc with rfl | hc
          · exact closure_sub hS (fun i hi' => hS p' f1 hi i ((hpo.em i).1 hi')) h.cls
          · exact h.cls c hc S hS hi
      have hXX : ∀ t, pendX pend t = false → pendX pend t = false ∨ p'.o.dst = some t := fun t ht => .inl ht
      unfold wpOp
      rw [hj]
      simp only
      cases hw : wantedA ops a.tm p'.o with
      | none => rw [hw] at hdo; exact absurd hdo.symm hno
      | some wb =>
        rw [hw] at hdo
        rw [h.ar.wanted hseen hw]
        cases wb with
        | false =>
          simp only at hdo
          split at hdo
          · rename_i a' hput
            obtain ⟨p1, p2, p3, p4⟩ := put_some hput
            rw [if_neg (by simp)]
            exact k steps' a' s _ _ _ E _ w (after p1 (fun t ht => by rw [p3, if_neg ht]) (h.ar.put (Env.le_refl E) hput (.tuple _ _ .nil) hXX) h.wr (Grow.refl _ E) (Fwd.refl _) (.inl rfl)) hst hdo
          · exact absurd hdo.symm hno
        | true =>
          simp only at hdo
          rw [if_pos rfl]
          refine .inl ?_
          split at hdo
          · rename_i a' s' hstep
            cases hrc : recheckAll P G ops a' s' (chkOf P (notIn (closure p'.em cls) ppend)) with
            | false => rw [hrc] at hdo; exact absurd hdo.symm hno
            | true =>
              rw [hrc] at hdo
              simp only [cond_true] at hdo
              have hall' := recheckAll_mem hrc
              have hchk : s' = s ∨ ∀ q ∈ notIn (closure p'.em cls) ppend, readsH P q.o.op = true → recheck P G ops a' s' q.o = true := .inr fun q hq hr => hall' q.o (chkOf_mem hq hr)
              unfold stepOp at hstep
              split at hstep
              · unfold stepL at hstep
                split at hstep
                · rename_i v hv
                  obtain ⟨hput, rfl⟩ := srput_ok hstep
                  obtain ⟨p1, p2, p3, p4⟩ := put_some hput
                  exact light_wp h.wr h.glob h.ar hseen hv fun z hz =>
                    k steps' a' _ _ _ _ E _ w (after p1 (fun t ht => by rw [p3, if_neg ht]) (h.ar.put (Env.le_refl E) hput hz hXX) h.wr (Grow.refl _ E) (Fwd.refl _) hchk) hst hdo
                · cases hstep
              · unfold stepN at hstep
                split at hstep
                · rename_i x y hv
                  obtain ⟨hput, rfl⟩ := srput_ok hstep
                  obtain ⟨p1, p2, p3, p4⟩ := put_some hput
                  refine alloc_wp h.wr h.glob h.ar hseen hv fun z w' ob n d hb => ?_
                  have hb1 := hb.world
                  subst hb1
                  have hle : Env.le E (E.add s.nx ⟨w.heap.size, 0, n⟩) := Env.le_add h.wr.freshE
                  exact k steps' a' _ _ _ _ _ _ _ (after p1 (fun t ht => by rw [p3, if_neg ht]) (h.ar.put hle hput (hb.val _ _ hle (Env.add_same _ _ _)) hXX) (h.wr.new hb.obj) (Grow.add h.wr.freshE) (Fwd.new _ _) hchk) hst hdo
                · cases hstep
              · obtain ⟨t1, t2⟩ := stepH_tm hstep
                refine heavy_wp hX hM hR h.wr h.glob h.ar hseen hstep (fun a2 s2 e E' act' w' g1 g2 g3 g4 => ?_) (fun v s2 e => by cases e) (by simp)
                cases e
                exact k steps' a' s' _ _ _ E' act' w' (after t1 t2 g2 g3 g1 g4 hchk) hst hdo
          · exact absurd hdo.symm hno
    · cases hpl
  · cases hpl
/-- nothing is left: both are at the end -/
theorem Sim.done (h : Sim K w0 P G ops s0 E0 listed lm cls ppend pend E a s act w) {f : Nat} {steps : List PStep} {r : CR} (hpl : planGo P (allP P ops) f lm cls ppend = some steps)
    (hdo : doPlan P G ext memo rec ops steps a s = r) (hr : Region.ready .any ops listed = []) : r = .norm a s ∧ AR E noX a act := by
  have hnone : ∀ p ∈ allP P ops, ¬ ((∀ i, Dep p.o i → L listed i) ∧ ¬ L listed p.i) := by
    intro p hp ⟨h1, h2⟩
    have hpo := allP_ok hp
    have hlt : p.i < listed.size := by rw [h.size]; exact (Array.getElem?_eq_some_iff.1 hpo.at_).1
    have : p.i ∈ Region.ready .any ops listed := ready_iff.2 ⟨p.o, hpo.at_, by
      unfold L at h2
      rw [Array.getD_eq_getD_getElem?, Array.getElem?_eq_getElem hlt] at h2 ⊢
      simpa using h2, h1⟩
    rw [hr] at this; cases this
  have hp0 : pend = [] := by
    cases hpend : pend with
    | nil => rfl
    | cons q l =>
      obtain ⟨q', g1, g2⟩ := h.pok.ready (by rw [hpend]; simp)
      exact absurd ⟨g2, (h.pok.mem q' g1).2.1⟩ (hnone q'.1 (h.pok.mem q' g1).1)
  subst hp0
  have hlm : ∀ i, lm.testBit i = true ↔ L listed i := fun i => by
    rw [h.lms]
    constructor
    · rintro (c | ⟨q, c, _⟩)
      · exact c
      · cases c
    · exact .inl
  have hno : ∀ p ∈ allP P ops, readyP lm p = false := by
    intro p hp
    cases hc : readyP lm p with
    | false => rfl
    | true =>
      obtain ⟨c1, c2⟩ := (readyP_iff (allP_ok hp)).1 hc
      exact absurd ⟨fun i hi => (hlm i).1 (c2 i hi), fun q => by rw [(hlm _).2 q] at c1; cases c1⟩ (hnone p hp)
  have hra : readyAll lm (allP P ops) = [] := by
    cases hc : readyAll lm (allP P ops) with
    | nil => rfl
    | cons p l =>
      have : p ∈ readyAll lm (allP P ops) := by rw [hc]; exact .head _
      obtain ⟨c1, c2⟩ := readyAll_mem.1 this
      rw [hno p c1] at c2; cases c2
  have hst : steps = [] := by
    cases f with
    | zero => simp only [planGo, hra] at hpl; cases hpl; rfl
    | succ f =>
      cases hfl : findLight lm (pendLooks ppend) (allP P ops) with
      | some p =>
        obtain ⟨c1, _, c2, _⟩ := findLight_some hfl
        rw [hno p c1] at c2; cases c2
      | none => simp only [planGo, hfl, hra] at hpl; cases hpl; rfl
  subst hst
  exact ⟨hdo.symm, h.ar⟩
theorem count_set {l : Array Bool} {j : Nat} (hj : l[j]? = some false) : (l.setIfInBounds j true).toList.countP (· == false) + 1 = l.toList.countP (· == false) := by
  obtain ⟨l⟩ := l
  simp only [List.getElem?_toArray] at hj
  simp only [List.setIfInBounds_toArray]
  induction l generalizing j with
  | nil => simp at hj
  | cons b l ih =>
    cases j with
    | zero => simp at hj; subst hj; simp
    | succ j =>
      have := ih (j := j) (by simpa using hj)
      cases b <;> simp at this ⊢ <;> omega
/-- a region that draws its order -/
theorem drawn_ok (hX : ExtOK P ext) (hM : MemoOK K w0 P G memo) (hR : RecOK K w0 P G rec) {Q : Exit → Act → World → Prop} {r : CR} (hno : r ≠ .no)
    (hQ : ∀ E a s act w, r = .norm a s → AR E noX a act → WR K w0 E s w → Grow s0.nx E0 E → Fwd s0 s → Q .normal act w) :
    ∀ (n : Nat) (f : Nat) (listed : Array Bool) (lm : Nat) (cls : List (Nat × Nat)) (ppend : List PO) (pend : PList) (E : Env) (a : AAct) (s : St) (act : Act) (w : World) (steps : List PStep),
      listed.toList.countP (· == false) ≤ n → Sim K w0 P G ops s0 E0 listed lm cls ppend pend E a s act w → planGo P (allP P ops) f lm cls ppend = some steps → doPlan P G ext memo rec ops steps a s = r →
      wpAny P .any ops Q n listed act w := by
  have fin : ∀ (f : Nat) (listed : Array Bool) (lm : Nat) (cls : List (Nat × Nat)) (ppend : List PO) (pend : PList) (E : Env) (a : AAct) (s : St) (act : Act) (w : World) (steps : List PStep),
      Sim K w0 P G ops s0 E0 listed lm cls ppend pend E a s act w → planGo P (allP P ops) f lm cls ppend = some steps → doPlan P G ext memo rec ops steps a s = r → Region.ready .any ops listed = [] → Q .normal act w := by
    intro f listed lm cls ppend pend E a s act w steps h hpl hdo hr
    obtain ⟨h1, h2⟩ := h.done hpl hdo hr
    exact hQ E a s act w h1 h2 h.wr h.grow h.fwd
  intro n
  induction n with
  | zero =>
    intro f listed lm cls ppend pend E a s act w steps hn h hpl hdo
    have hr : Region.ready .any ops listed = [] := by
      cases hc : Region.ready .any ops listed with
      | nil => rfl
      | cons j l =>
        have : j ∈ Region.ready .any ops listed := by rw [hc]; exact .head _
        obtain ⟨o, h1, h2, _⟩ := ready_iff.1 this
        have hj : j < listed.size := by rw [h.size]; exact (Array.getElem?_eq_some_iff.1 h1).1
        have h3 : listed[j]? = some false := by
          rw [Array.getD_eq_getD_getElem?] at h2
          rw [Array.getElem?_eq_getElem hj] at h2 ⊢
          simpa using h2
        have := count_set h3
        omega
    exact ⟨hr, fin _ _ _ _ _ _ _ _ _ _ _ _ h hpl hdo hr⟩
  | succ n ih =>
    intro f listed lm cls ppend pend E a s act w steps hn h hpl hdo
    refine ⟨fin _ _ _ _ _ _ _ _ _ _ _ _ h hpl hdo, fun j hj => ?_⟩
    obtain ⟨o, h1, h2, h3⟩ := ready_iff.1 hj
    have hjs : j < listed.size := by rw [h.size]; exact (Array.getElem?_eq_some_iff.1 h1).1
    have h4 : listed[j]? = some false := by
      rw [Array.getD_eq_getD_getElem?] at h2
      rw [Array.getElem?_eq_getElem hjs] at h2 ⊢
      simpa using h2
    have hcnt := count_set h4
    have hjl : ¬ L listed j := by
      unfold L
      rw [Array.getD_eq_getD_getElem?, h4]
      simp
    have hcn : (listed.setIfInBounds j true).toList.countP (· == false) ≤ n := by omega
    clear hn hj h2
    have takeIt : ∀ (f : Nat) (lm : Nat) (cls : List (Nat × Nat)) (ppend : List PO) (pend : PList) (a : AAct) (s : St) (steps : List PStep), Sim K w0 P G ops s0 E0 listed lm cls ppend pend E a s act w →
        planGo P (allP P ops) f lm cls ppend = some steps → doPlan P G ext memo rec ops steps a s = r → idx pend j → wpOp P ops Q j (wpAny P .any ops Q n (listed.setIfInBounds j true)) act w := by
      intro f lm cls ppend pend a s steps h hpl hdo hi
      obtain ⟨q, hq, hqj⟩ := hi
      have ho : q.1.o = o := by
        have e1 := (allP_ok (h.pok.mem q hq).1).at_
        rw [hqj, h1] at e1
        exact (Option.some.inj e1).symm
      subst hqj
      refine h.take hq (fun i hi => h3 i (ho ▸ hi)) fun E' act' w' h' => ?_
      exact ih f _ lm cls ppend _ E' a s act' w' steps hcn h' hpl hdo
    induction f generalizing lm cls ppend pend a s steps with
    | zero =>
      by_cases hi : idx pend j
      · exact takeIt 0 lm cls ppend pend a s steps h hpl hdo hi
      · exfalso
        obtain ⟨p, f1, rfl, rfl⟩ := allP_mem (P := P) h1
        have hrd : readyP lm p = true := (readyP_iff (allP_ok f1)).2 ⟨by
          cases hc : lm.testBit p.i with
          | false => rfl
          | true => rcases (h.lms p.i).1 hc with c | c
                    · exact absurd c hjl
                    · exact absurd c hi, fun i hi => (h.lms i).2 (.inl (h3 i hi))⟩
        have hm : p ∈ readyAll lm (allP P ops) := readyAll_mem.2 ⟨f1, hrd⟩
        simp only [planGo] at hpl
        split at hpl
        · rename_i hr; rw [hr] at hm; cases hm
        · cases hpl
    | succ f ihf =>
      by_cases hi : idx pend j
      · exact takeIt (f + 1) lm cls ppend pend a s steps h hpl hdo hi
      · cases hfl : findLight lm (pendLooks ppend) (allP P ops) with
        | some p =>
          obtain ⟨steps', a', s', b, g1, g2, g3⟩ := h.light hpl hdo hno hfl
          exact ihf _ _ _ _ _ _ steps' g3 g1 g2
        | none =>
          exact h.heavy hX hM hR hpl hdo hno hfl h1 hjl h3 hi fun steps' a' s' lm' cls' ppend' E' act' w' h' hpl' hdo' =>
            ih f _ lm' cls' ppend' pend E' a' s' act' w' steps' hcn h' hpl' hdo'
/-- a region that draws its order, from its start -/
theorem region_drawn (hm : P.follows .mixedOrders = true) (hX : ExtOK P ext) (hM : MemoOK K w0 P G memo) (hR : RecOK K w0 P G rec) {id : Nat} {l : List PStep} {E : Env} {a : AAct} {s : St} {act : Act} {w : World} {r : CR}
    (hpl : plan P ops = some l) (hdo : doPlan P G ext memo rec ops l a s = r) (hno : r ≠ .no) (hW : WR K w0 E s w) (hG : Glob E G) (hA : AR E noX a act) :
    (Code.region id ops true).wp P (CRP K w0 E s r) act w := by
  refine wp_region_any hm ?_
  have hS : Sim K w0 P G ops s E (Array.replicate ops.size false) 0 [] [] [] E a s act { w with drawn := w.drawn + 1 } := by
    have hLf : ∀ i, ¬ L (Array.replicate ops.size false) i := by
      intro i
      unfold L
      rw [Array.getD_eq_getD_getElem?, Array.getElem?_replicate]
      split <;> simp
    refine ⟨hA, hW.drawn _, hG, by simp, fun i => ?_, fun p _ hi => absurd hi (hLf _), .nil, fun q hq => (nomatch hq), fun q hq => (nomatch hq), fun q hq => (nomatch hq), fun c hc => (nomatch hc), Grow.refl _ _, Fwd.refl _, hW.lonx⟩
    simp only [Nat.zero_testBit]
    constructor
    · intro q; cases q
    · rintro (c | ⟨q, c, _⟩)
      · exact absurd c (hLf i)
      · cases c
  refine drawn_ok (s0 := s) (E0 := E) hX hM hR hno (fun E' a' s' act' w' e h1 h2 h3 h4 => ?_) ops.size _ _ _ _ _ _ _ _ _ _ _ _ ?_ hS hpl hdo
  · subst e; exact ⟨rfl, E', h3, h1, h2, h4⟩
  · exact Nat.le_trans List.countP_le_length (by simp)
end
end Go.Ex
