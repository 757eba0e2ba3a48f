/- PROVED: the abstract machine ahead of the real one. Conditions: those in each theorem's own words (the abstract state stands for the world). By an AI agent. -/
import Derived.Test.YtlfmomoogedfiabGreatDoorR23
namespace Go.Ex
def L (listed : Array Bool) (i : Nat) : Prop := listed.getD i false = true
theorem L_set {listed : Array Bool} {j i : Nat} (hj : j < listed.size) : L (listed.setIfInBounds j true) i ↔ L listed i ∨ i = j := by
  unfold L
  simp only [Array.getD_eq_getD_getElem?, Array.getElem?_setIfInBounds]
  by_cases e : j = i
  · subst e; simp [hj]
  · simp [e, Ne.symm e]
section
variable {K : Nat → Prop} {w0 : World} {P : Program} {G : Nat} {ext : FuncId → Option Ext} {ops : Array Oper}
variable {memo : FuncId → List AV → St → Option (AV × St)} {rec : Task → Out}

theorem closure_sub {S : Nat → Prop} (hS : DC P ops S) {em : Nat} (hem : ∀ i, em.testBit i = true → S i) : ∀ {cls : List (Nat × Nat)},
    (∀ c ∈ cls, ∀ S, DC P ops S → S c.1 → ∀ i, c.2.testBit i = true → S i) → ∀ i, (closure em cls).testBit i = true → S i := by
  intro cls
  induction cls with
  | nil => intro _ i h; exact hem i h
  | cons c cls ih =>
    intro hc i h
    obtain ⟨k, c⟩ := c
    simp only [closure] at h
    cases hb : bitIn em k with
    | true =>
      rw [hb] at h
      simp only [cond_true, testBit_lor, Bool.or_eq_true] at h
      rcases h with h | h
      · exact hc (k, c) (.head _) S hS (hem k (by rw [← bitIn_eq]; exact hb)) i h
      · exact ih (fun c hm => hc c (.tail _ hm)) i h
    | false =>
      rw [hb] at h
      exact ih (fun c hm => hc c (.tail _ hm)) i h
theorem pendLooks_mem {l : List PO} (hl : ∀ q ∈ l, POok P ops q) {q : PO} (hq : q ∈ l) {t : Nat} (ht : t ∈ q.o.looksAt ops ∨ q.o.dst = some t) : (pendLooks l).testBit t = true := by
  induction l with
  | nil => cases hq
  | cons p l ih =>
    simp only [pendLooks, testBit_lor, Bool.or_eq_true]
    rcases List.mem_cons.1 hq with rfl | hq
    · rcases ht with ht | ht
      · exact .inl (.inl (((hl q (.head _)).lm t).2 ht))
      · exact .inl (.inr (((hl q (.head _)).dm t).2 ht))
    · exact .inr (ih (fun q h => hl q (.tail _ h)) hq)
theorem pendDsts_mem {l : List PO} (hl : ∀ q ∈ l, POok P ops q) {cl : Nat} {q : PO} (hq : q ∈ l) (hc : cl.testBit q.i = false) {t : Nat} (ht : q.o.dst = some t) : (pendDsts cl l).testBit t = true := by
  induction l with
  | nil => cases hq
  | cons p l ih =>
    simp only [pendDsts]
    cases hb : bitIn cl p.i with
    | true =>
      simp only [cond_true]
      rcases List.mem_cons.1 hq with rfl | hq
      · rw [bitIn_eq, hc] at hb; cases hb
      · exact ih (fun q h => hl q (.tail _ h)) hq
    | false =>
      simp only [cond_false, testBit_lor, Bool.or_eq_true]
      rcases List.mem_cons.1 hq with rfl | hq
      · exact .inl (((hl q (.head _)).dm t).2 ht)
      · exact .inr (ih (fun q h => hl q (.tail _ h)) hq)
theorem notIn_mem {cl : Nat} {l : List PO} {q : PO} (hq : q ∈ l) (hc : cl.testBit q.i = false) : q ∈ notIn cl l := by
  induction l with
  | nil => cases hq
  | cons p l ih =>
    simp only [notIn]
    cases hb : bitIn cl p.i with
    | true =>
      rcases List.mem_cons.1 hq with rfl | hq
      · rw [bitIn_eq, hc] at hb; cases hb
      · exact ih hq
    | false =>
      rcases List.mem_cons.1 hq with rfl | hq
      · exact .head _
      · exact .tail _ (ih hq)
theorem notIn_sub {cl : Nat} {l : List PO} {q : PO} (hq : q ∈ notIn cl l) : q ∈ l := by
  induction l with
  | nil => cases hq
  | cons p l ih =>
    simp only [notIn] at hq
    cases hb : bitIn cl p.i with
    | true => rw [hb] at hq; exact .tail _ (ih hq)
    | false =>
      rw [hb] at hq
      rcases List.mem_cons.1 hq with rfl | hq
      · exact .head _
      · exact .tail _ (ih hq)
theorem chkOf_mem {l : List PO} {q : PO} (hq : q ∈ l) (hr : readsH P q.o.op = true) : q.o ∈ chkOf P l := by
  induction l with
  | nil => cases hq
  | cons p l ih =>
    simp only [chkOf]
    cases hb : readsH P p.o.op with
    | true =>
      rcases List.mem_cons.1 hq with rfl | hq
      · exact .head _
      · exact .tail _ (ih hq)
    | false =>
      rcases List.mem_cons.1 hq with rfl | hq
      · rw [hr] at hb; cases hb
      · exact ih hq
theorem recheckAll_mem {a : AAct} {s : St} {l : List Oper} (h : recheckAll P G ops a s l = true) : ∀ o ∈ l, recheck P G ops a s o = true := by
  induction l with
  | nil => intro o ho; cases ho
  | cons p l ih =>
    simp only [recheckAll] at h
    cases hb : recheck P G ops a s p with
    | true =>
      rw [hb] at h
      intro o ho
      rcases List.mem_cons.1 ho with rfl | ho
      · exact hb
      · exact ih h o ho
    | false => rw [hb] at h; cases h
theorem Promise.noE {E : Env} {n0 : Nat} {a : AAct} {s : St} {o : Oper} {b : Option Nat} (h : Promise P G ops E n0 a s o b) : ∀ b', b = some b' → E b' = none ∧ b' < s.nx ∧ n0 ≤ b' := by
  intro b' hb
  rcases h.2 with ⟨_, c, _⟩ | ⟨_, _, c, _⟩ | ⟨_, _, b2, x, r, c, _, _, _, c7, c8, c9⟩
  · rw [c] at hb; cases hb
  · rw [c] at hb; cases hb
  · rw [c] at hb; cases hb; exact ⟨c9, c7, c8⟩

/-- the abstract machine ahead of the real one -/
structure Sim (K : Nat → Prop) (w0 : World) (P : Program) (G : Nat) (ops : Array Oper) (s0 : St) (E0 : Env) (listed : Array Bool) (lm : Nat) (cls : List (Nat × Nat)) (ppend : List PO) (pend : PList) (E : Env) (a : AAct) (s : St) (act : Act) (w : World) : Prop where
  ar : AR E (pendX pend) a act
  wr : WR K w0 E s w
  glob : Glob E G
  size : listed.size = ops.size
  lms : ∀ i, lm.testBit i = true ↔ (L listed i ∨ idx pend i)
  dc : DC P ops (L listed)
  pok : POK P ops (L listed) pend
  sub : ∀ q ∈ pend, q.1 ∈ ppend
  pall : ∀ q ∈ ppend, q ∈ allP P ops
  prom : ∀ q ∈ pend, Promise P G ops E s0.nx a s q.1.o q.2
  cls : ∀ c ∈ cls, ∀ S, DC P ops S → S c.1 → ∀ i, c.2.testBit i = true → S i
  grow : Grow s0.nx E0 E
  fwd : Fwd s0 s
  lo0 : s0.lo ≤ s0.nx
section
variable {s0 : St} {E0 E : Env} {listed : Array Bool} {lm : Nat} {cls : List (Nat × Nat)} {ppend : List PO} {pend : PList} {a : AAct} {s : St} {act : Act} {w : World}
theorem lm_set {lm p : Nat} (i : Nat) : (Nat.lor lm (Nat.shiftLeft 1 p)).testBit i = true ↔ lm.testBit i = true ∨ i = p := by
  rw [testBit_lor, testBit_one_shl, Bool.or_eq_true, decide_eq_true_eq]
/-- a light or a making operation is done ahead -/
theorem Sim.ahead (h : Sim K w0 P G ops s0 E0 listed lm cls ppend pend E a s act w) {p : PO} (hp : findLight lm (pendLooks ppend) (allP P ops) = some p) (hm : meets p.lm (pendDsts (closure p.em cls) ppend) = false)
    {b : Option Nat} {a' : AAct} {s' : St} (hnt : a'.nt = a.nt) (htm : ∀ t, p.o.dst ≠ some t → a'.tm.get t = a.tm.get t) (har : AR E (pendX ((p, b) :: pend)) a' act)
    (hs : s' = s ∨ ∀ q ∈ ppend, readsH P q.o.op = true → recheck P G ops a' s' q.o = true) (hwr : WR K w0 E s' w) (hf : Fwd s s') (hb : ∀ b', b = some b' → b' = s.nx)
    (hpr : Promise P G ops E s0.nx a' s' p.o b) :
    Sim K w0 P G ops s0 E0 listed (Nat.lor lm (Nat.shiftLeft 1 p.i)) ((p.i, closure p.em cls) :: cls) (p :: ppend) ((p, b) :: pend) E a' s' act w := by
  obtain ⟨f1, f2, f3, f4, f5⟩ := findLight_some hp
  have hpo := allP_ok f1
  have hall : ∀ q ∈ ppend, POok P ops q := fun q hq => allP_ok (h.pall q hq)
  obtain ⟨r1, r2⟩ := (readyP_iff hpo).1 f3
  have self : ∀ d, p.o.dst = some d → d ∉ p.o.looksAt ops := fun d hd hl => by
    have := meets_false f5 ((hpo.dm d).2 hd)
    rw [(hpo.lm d).2 hl] at this; cases this
  have apart : ∀ q ∈ pend, ∀ d, p.o.dst = some d → d ∉ q.1.o.looksAt ops ∧ q.1.o.dst ≠ some d := fun q hq d hd => by
    have := meets_false f4 ((hpo.dm d).2 hd)
    refine ⟨fun hl => ?_, fun hl => ?_⟩
    · rw [pendLooks_mem hall (h.sub q hq) (.inl hl)] at this; cases this
    · rw [pendLooks_mem hall (h.sub q hq) (.inr hl)] at this; cases this
  have nl : ¬ (L listed p.i ∨ idx pend p.i) := fun q => by rw [(h.lms p.i).2 q] at r1; cases r1
  refine ⟨har, hwr, h.glob, h.size, fun i => ?_, h.dc, .cons _ _ ⟨f1, fun i hi => (h.lms i).1 (r2 i hi), fun q => nl (.inl q), fun q hq e => nl (.inr ⟨q, hq, e⟩), fun q hq b' hb' e => ?_, self, apart, ?_⟩ h.pok, ?_, ?_, ?_, ?_, h.grow, h.fwd.trans hf, h.lo0⟩
  · rw [lm_set, h.lms]
    constructor
    · rintro ((q | ⟨q, q1, q2⟩) | rfl)
      · exact .inl q
      · exact .inr ⟨q, .tail _ q1, q2⟩
      · exact .inr ⟨(p, b), .head _, rfl⟩
    · rintro (q | ⟨q, q1, q2⟩)
      · exact .inl (.inl q)
      · rcases List.mem_cons.1 q1 with rfl | q1
        · exact .inr q2.symm
        · exact .inl (.inr ⟨q, q1, q2⟩)
  · have h1 := hb b' hb'
    have h2 := ((h.prom q hq).noE b' e).2.1
    omega
  · intro q hq d hd hl S hS hdep
    cases hc : (closure p.em cls).testBit q.1.i with
    | true => exact closure_sub hS (fun i hi => hdep i ((hpo.em i).1 hi)) h.cls _ hc
    | false =>
      have h1 := pendDsts_mem hall (h.sub q hq) hc hd
      rw [meets_false hm ((hpo.lm d).2 hl)] at h1
      cases h1
  · intro q hq
    rcases List.mem_cons.1 hq with rfl | hq
    · exact .head _
    · exact .tail _ (h.sub q hq)
  · intro q hq
    rcases List.mem_cons.1 hq with rfl | hq
    · exact f1
    · exact h.pall q hq
  · intro q hq
    rcases List.mem_cons.1 hq with rfl | hq
    · exact hpr
    · refine (h.prom q hq).keep (fun t ht => htm t fun e => (apart q hq t e).1 ht) (fun d hd => htm d fun e => (apart q hq d e).2 hd) hnt ?_ (fun b' hb' => ((h.prom q hq).noE b' hb').1) hf
      rcases hs with hs | hs
      · exact .inl hs
      · exact .inr (hs q.1 (h.sub q hq))
  · intro c hc S hS hi
    rcases List.mem_cons.1 hc with rfl | hc
    · exact closure_sub hS (fun i hi' => hS p f1 hi i ((hpo.em i).1 hi')) h.cls
    · exact h.cls c hc S hS hi
/-- the plan's next step, a light or a making one -/
theorem Sim.light (h : Sim K w0 P G ops s0 E0 listed lm cls ppend pend E a s act w) {f : Nat} {steps : List PStep} {r : CR} (hpl : planGo P (allP P ops) (f + 1) lm cls ppend = some steps)
    (hdo : doPlan P G ext memo rec ops steps a s = r) (hno : r ≠ .no) {p : PO} (hp : findLight lm (pendLooks ppend) (allP P ops) = some p) :
    ∃ steps' a' s' b, planGo P (allP P ops) f (Nat.lor lm (Nat.shiftLeft 1 p.i)) ((p.i, closure p.em cls) :: cls) (p :: ppend) = some steps' ∧ doPlan P G ext memo rec ops steps' a' s' = r ∧
      Sim K w0 P G ops s0 E0 listed (Nat.lor lm (Nat.shiftLeft 1 p.i)) ((p.i, closure p.em cls) :: cls) (p :: ppend) ((p, b) :: pend) E a' s' act w := by
  obtain ⟨f1, f2, f3, f4, f5⟩ := findLight_some hp
  have hpo := allP_ok f1
  have self : ∀ d, p.o.dst = some d → d ∉ p.o.looksAt ops := fun d hd hl => by
    have := meets_false f5 ((hpo.dm d).2 hd)
    rw [(hpo.lm d).2 hl] at this; cases this
  simp only [planGo, hp] at hpl
  cases hm : meets p.lm (pendDsts (closure p.em cls) ppend) with
  | true => rw [hm] at hpl; cases hpl
  | false =>
    rw [hm] at hpl
    simp only [cond_false] at hpl
    split at hpl
    · rename_i steps' hst
      cases hpl
      simp only [doPlan] at hdo
      have arx : ∀ {a' : AAct} {x : AV} {b : Option Nat}, a.put p.o.dst x = some a' → AR E (pendX ((p, b) :: pend)) a' act := by
        intro a' x b hput
        refine h.ar.ahead hput fun t ht => ?_
        rw [pendX_false] at ht
        exact ⟨pendX_false.2 fun q hq => ht q (.tail _ hq), ht (p, b) (.head _)⟩
      have wsame : ∀ {a' : AAct}, (∀ t, p.o.dst ≠ some t → a'.tm.get t = a.tm.get t) → ∀ t ∈ p.o.looksAt ops, a'.tm.get t = a.tm.get t := fun htm t ht => htm t fun e => self t e ht
      cases hw : wantedA ops a.tm p.o with
      | none => rw [hw] at hdo; exact absurd hdo.symm hno
      | some wb =>
        rw [hw] at hdo
        cases wb with
        | false =>
          simp only at hdo
          split at hdo
          · rename_i a' hput
            obtain ⟨p1, p2, p3, p4⟩ := put_some hput
            have htm : ∀ t, p.o.dst ≠ some t → a'.tm.get t = a.tm.get t := fun t ht => by rw [p3, if_neg ht]
            exact ⟨steps', a', s, none, hst, hdo, h.ahead hp hm p1 htm (arx hput) (.inl rfl) h.wr (Fwd.refl _) (by simp)
              ⟨fun d hd => by rw [p1]; exact p4 d hd, .inl ⟨by rw [wantedA_congr (wsame htm), hw], rfl, fun d hd => by rw [p3, if_pos hd]⟩⟩⟩
          · exact absurd hdo.symm hno
        | true =>
          simp only at hdo
          split at hdo
          · rename_i a' s' hstep
            generalize hchk : chkOf P _ = chk at hdo
            cases hrc : recheckAll P G ops a' s' chk with
            | false => rw [hrc] at hdo; exact absurd hdo.symm hno
            | true =>
              rw [hrc] at hdo
              simp only [cond_true] at hdo
              unfold stepOp at hstep
              cases hk : kindOf P p.o.op with
              | light =>
                rw [hk] at hstep
                simp only [stepL] at hstep
                split at hstep
                · rename_i v hv
                  obtain ⟨hput, rfl⟩ := srput_ok hstep
                  obtain ⟨p1, p2, p3, p4⟩ := put_some hput
                  have htm : ∀ t, p.o.dst ≠ some t → a'.tm.get t = a.tm.get t := fun t ht => by rw [p3, if_neg ht]
                  refine ⟨steps', a', _, none, hst, hdo, h.ahead hp hm p1 htm (arx hput) (.inl rfl) h.wr (Fwd.refl _) (by simp)
                    ⟨fun d hd => by rw [p1]; exact p4 d hd, .inr (.inl ⟨by rw [wantedA_congr (wsame htm), hw], hk, rfl, v, ?_, fun d hd => by rw [p3, if_pos hd]⟩)⟩⟩
                  rw [(exec_congr (ext := fun _ => none) (evA_same (G := G) (wsame htm))).1]; exact hv
                · cases hstep
              | alloc =>
                rw [hk] at hstep hchk
                simp only at hchk
                subst hchk
                simp only [stepN] at hstep
                split at hstep
                · rename_i x y hv
                  obtain ⟨hput, rfl⟩ := srput_ok hstep
                  obtain ⟨p1, p2, p3, p4⟩ := put_some hput
                  have htm : ∀ t, p.o.dst ≠ some t → a'.tm.get t = a.tm.get t := fun t ht => by rw [p3, if_neg ht]
                  have hall := recheckAll_mem hrc
                  have hself := hall p.o (chkOf_mem (.head _) (by unfold readsH; rw [hk]))
                  have hw' : wantedA ops a'.tm p.o = some true := by rw [wantedA_congr (wsame htm), hw]
                  obtain ⟨x', r', g1, g2, g3⟩ := recheck_alloc hself hw' hk (b := s.nx) (r0 := y) (fun d hd => by rw [p3, if_pos hd]) (execN_base hv s.nx)
                  exact ⟨steps', a', _, some s.nx, hst, hdo, h.ahead hp hm p1 htm (arx hput) (.inr fun q hq hr => hall q.o (chkOf_mem (.tail _ hq) hr)) (h.wr.early x) (Fwd.new _ _) (fun b' hb' => by cases hb'; rfl)
                    ⟨fun d hd => by rw [p1]; exact p4 d hd, .inr (.inr ⟨hw', hk, s.nx, x', r', rfl, g1, g2, g3, by simp [Ex.new], h.fwd.nx, h.wr.freshE⟩)⟩⟩
                · cases hstep
              | heavy => exact absurd hk (hpo.lt f2)
          · exact absurd hdo.symm hno
    · cases hpl
/-- one that is done ahead is caught up with -/
theorem Sim.caught (h : Sim K w0 P G ops s0 E0 listed lm cls ppend pend E a s act w) {q : PO × Option Nat} (hq : q ∈ pend) (hr : ∀ i, Dep q.1.o i → L listed i)
    {E' : Env} {act' : Act} {w' : World} (har : AR E' (pendX (drop q.1.i pend)) a act') (hwr : WR K w0 E' s w') (hle : Env.le E E') (hg : Grow s0.nx E0 E') (hE : ∀ q' ∈ pend, q'.1.i ≠ q.1.i → ∀ b, q'.2 = some b → E' b = none) :
    Sim K w0 P G ops s0 E0 (listed.setIfInBounds q.1.i true) lm cls ppend (drop q.1.i pend) E' a s act' w' := by
  obtain ⟨m1, m2, m3⟩ := h.pok.mem q hq
  have hj : q.1.i < listed.size := by
    rw [h.size]; exact (Array.getElem?_eq_some_iff.1 (allP_ok m1).at_).1
  have hL : ∀ i, L (listed.setIfInBounds q.1.i true) i ↔ L listed i ∨ i = q.1.i := fun i => L_set hj
  have hLe : L (listed.setIfInBounds q.1.i true) = fun i => L listed i ∨ i = q.1.i := funext fun i => propext (hL i)
  refine ⟨har, hwr, h.glob.mono hle, by simp [h.size], fun i => ?_, ?_, by rw [hLe]; exact h.pok.drop _, fun q' hq' => h.sub q' (mem_drop.1 hq').1, h.pall, fun q' hq' => ?_, h.cls, hg, h.fwd, h.lo0⟩
  · rw [h.lms, hL]
    constructor
    · rintro (c | ⟨q', c1, c2⟩)
      · exact .inl (.inl c)
      · by_cases e : q'.1.i = q.1.i
        · exact .inl (.inr (by rw [← c2, e]))
        · exact .inr ⟨q', mem_drop.2 ⟨c1, e⟩, c2⟩
    · rintro ((c | rfl) | ⟨q', c1, c2⟩)
      · exact .inl c
      · exact .inr ⟨q, hq, rfl⟩
      · exact .inr ⟨q', (mem_drop.1 c1).1, c2⟩
  · intro p hp hi i hd
    rw [hL] at hi ⊢
    rcases hi with hi | hi
    · exact .inl (h.dc p hp hi i hd)
    · have e : p.o = q.1.o := by
        have e1 := (allP_ok hp).at_
        have e2 := (allP_ok m1).at_
        rw [hi, e2] at e1
        exact (Option.some.inj e1).symm
      rw [e] at hd
      exact .inl (hr i hd)
  · obtain ⟨c1, c2⟩ := mem_drop.1 hq'
    exact (h.prom q' c1).keep (fun t _ => rfl) (fun d _ => rfl) rfl (.inl rfl) (hE q' c1 c2) (Fwd.refl _)
/-- the real machine takes one that is done ahead -/
theorem Sim.take (h : Sim K w0 P G ops s0 E0 listed lm cls ppend pend E a s act w) {q : PO × Option Nat} (hq : q ∈ pend) (hr : ∀ i, Dep q.1.o i → L listed i)
    {next : Act → World → Prop} {Q : Exit → Act → World → Prop}
    (k : ∀ E' act' w', Sim K w0 P G ops s0 E0 (listed.setIfInBounds q.1.i true) lm cls ppend (drop q.1.i pend) E' a s act' w' → next act' w') : wpOp P ops Q q.1.i next act w := by
  obtain ⟨m1, m2, m3⟩ := h.pok.mem q hq
  have hseen := h.pok.seen h.dc q hq hr
  obtain ⟨p1, p2⟩ := h.prom q hq
  have hX : ∀ t, pendX (drop q.1.i pend) t = false → pendX pend t = false ∨ q.1.o.dst = some t := by
    intro t ht
    by_cases e : q.1.o.dst = some t
    · exact .inr e
    · left
      rw [pendX_false] at ht ⊢
      intro q' hq'
      by_cases c : q'.1.i = q.1.i
      · have e1 := (allP_ok (h.pok.mem q' hq').1).at_
        have e2 := (allP_ok m1).at_
        rw [c, e2] at e1
        have : q.1.o = q'.1.o := Option.some.inj e1
        rw [← this]; exact e
      · exact ht q' (mem_drop.2 ⟨hq', c⟩)
  have hEs : ∀ q' ∈ pend, q'.1.i ≠ q.1.i → ∀ b, q'.2 = some b → E b = none := fun q' hq' _ b hb => ((h.prom q' hq').noE b hb).1
  unfold wpOp
  rw [(allP_ok m1).at_]
  simp only
  rcases p2 with ⟨c1, c2, c3⟩ | ⟨c1, c2, c3, v, c4, c5⟩ | ⟨c1, c2, b, x, r, c3, c4, c5, c6, c7, c8, c9⟩
  · rw [h.ar.wanted hseen c1, if_neg (by simp)]
    exact k E _ w (h.caught hq hr (h.ar.catch (Env.le_refl E) (fun d hd => ⟨c3 d hd, p1 d hd⟩) (.tuple _ _ .nil) hX) h.wr (Env.le_refl E) h.grow hEs)
  · rw [h.ar.wanted hseen c1, if_pos rfl]
    refine .inl (light_wp h.wr h.glob h.ar hseen c4 fun z hz => ?_)
    exact k E _ w (h.caught hq hr (h.ar.catch (Env.le_refl E) (fun d hd => ⟨c5 d hd, p1 d hd⟩) hz hX) h.wr (Env.le_refl E) h.grow hEs)
  · rw [h.ar.wanted hseen c1, if_pos rfl]
    refine .inl (alloc_wp h.wr h.glob h.ar hseen c4 fun z w' ob n d hb => ?_)
    have hw := hb.world
    subst hw
    have hle : Env.le E (E.add b ⟨w.heap.size, 0, n⟩) := Env.le_add c9
    have hlo : s.lo ≤ b := by
      have h1 := h.fwd.lo
      have h2 := h.wr.lonx
      have := h.lo0
      omega
    refine k (E.add b ⟨w.heap.size, 0, n⟩) _ _ (h.caught hq hr (h.ar.catch hle (fun d hd => ⟨c5 d hd, p1 d hd⟩) (hb.val _ _ hle (Env.add_same _ _ _)) hX) (h.wr.nameX c9 c7 hlo c6 hb.obj) hle ⟨Env.le_trans h.grow.le hle, fun i hi => ?_⟩ fun q' hq' hne b' hb' => ?_)
    · rw [← h.grow.old i hi]
      unfold Env.add
      rw [if_neg (by omega)]
    · have := hEs q' hq' hne b' hb'
      unfold Env.add
      rw [if_neg (fun e => h.pok.names q' hq' q hq hne b' hb' (by rw [c3, e])), this]
end
end
end Go.Ex
