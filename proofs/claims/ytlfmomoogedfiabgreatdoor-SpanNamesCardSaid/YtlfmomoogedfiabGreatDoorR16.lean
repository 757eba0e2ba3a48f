/- PROVED: range steps, bytes shared with a string, copy. Conditions: those in each theorem's own words (the abstract state stands for the world). By an AI agent. -/
import Derived.Test.YtlfmomoogedfiabGreatDoorR15
import Derived.Lib.Bytealg
namespace Go.Ex
open Go.MapKept

/-- what stands in for a function without a body -/
def ExtSem (e : Ext) (g : Array Value → Sem Value) : Prop :=
  match e with
  | .nop => ∃ m, g = fun _ => do mark m; pure Extern.Race.none_
  | .mark => ∃ m, g = Extern.Race.marked m
  | .cas32 => g = Extern.Atomic.casT (.int .i32)
  | .add32 => g = Extern.Atomic.update (Op.intArith .add) .i32 true
  | .cmp => g = Extern.BytealgCompare.compare
def ExtOK (P : Program) (ext : FuncId → Option Ext) : Prop :=
  ∀ f e fn, ext f = some e → P.funcs[f]? = some fn → (fn.name == "runtime.NumGoroutine") = false ∧ Extern.findNext fn = none ∧ ∃ g, Extern.find fn = some g ∧ ExtSem e g
def DR (E : Env) (d : ADef) (d' : Deferred) : Prop :=
  ∃ cap args, d' = { target := .fn d.fn ⟨cap⟩, args := ⟨args⟩ } ∧ VRs E d.cap cap ∧ VRs E d.args args
def HOK (K : Nat → Prop) (w0 : World) (P : Program) (E : Env) (s : St) (w : World) (m : Sem Next) : HR → Prop
  | .val v s' => ∃ E' z w', m.run P w = .ok (.value z) w' ∧ Grow s.nx E E' ∧ VR E' v z ∧ WR K w0 E' s' w' ∧ Fwd s s'
  | .skip s' => ∃ w', m.run P w = .ok .skip w' ∧ WR K w0 E s' w' ∧ Fwd s s'
  | .enter f args => ∃ args', m.run P w = .ok (.enter f ⟨args'⟩) w ∧ VRs E args args'
  | .defer d => ∃ d', m.run P w = .ok (.defer d') w ∧ DR E d d'
  | .recover => m.run P w = .ok .recover w
  | .pan v => ∃ z, m.run P w = .halt (.panic z) w ∧ VR E v z ∧ ∃ t u, v = .iface t u
section
variable {K : Nat → Prop} {w0 : World} {E : Env} {s : St} {w : World} {P : Program} {G : Nat} {tm : Tr AV} {ρ : Operand → Value} {ext : FuncId → Option Ext}

theorem HOK.nv {m : Sem Value} {v : AV} {s' : St} (h : NV K w0 P E s w m v s') : HOK K w0 P E s w (do pure (.value (← m))) (.val v s') := by
  obtain ⟨E', z, w', h1, h2, h3, h4, h5⟩ := h
  exact ⟨E', z, w', by simp [h1], h2, h3, h4, h5⟩
theorem HOK.nu {m : Sem Unit} {s' : St} (h : NU K w0 P E s w m s') : HOK K w0 P E s w (do m; pure .skip) (.skip s') := by
  obtain ⟨w', h1, h2, h3⟩ := h
  exact ⟨w', by simp [h1], h2, h3⟩

/-! ### next -/
theorem hNext_ok (hW : WR K w0 E s w) (hρ : OpR E G tm ρ) {it : Operand} {ty : TypeId} {r : HR} (h : hNext G tm s it = some r) :
    ∃ v s', r = .val v s' ∧ NV K w0 P E s w (Instr.next (ρ it) false ty) v s' := by
  unfold hNext at h
  split at h
  · rename_i b hb
    obtain ⟨l, hE, hv⟩ := ptr_inv (hρ _ _ hb)
    split at h
    · rename_i hob
      cases h
      obtain ⟨h0, m', g1, rfl⟩ := hW.obj _ _ _ hob hE
      refine ⟨_, s, rfl, E, .tuple #[.bool false], w, ?_, Grow.refl _ E, .tuple _ _ (.cons _ _ _ _ (.bool _) .nil), hW, Fwd.refl _⟩
      have hg : (getObj l.B).run P w = .ok (.mapIter none 0 #[] 0) w ∨ True := .inr trivial
      clear hg
      rw [hv, h0]
      simp [Instr.next, getObj, Sem.run, g1]
    · rename_i m since seen stepped hob
      obtain ⟨h0, m', g1, k, hEm, rfl⟩ := hW.obj _ _ _ hob hE
      have hg : (getObj l.B).run P w = .ok (.mapIter (some k.B) since seen.toArray stepped) w := by simp [getObj, Sem.run, g1]
      split at h
      · rename_i es c hma
        obtain ⟨-, -, es', g2, g3⟩ := hW.mapAt hma hEm
        clear hma
        have hg2 : (getObj k.B).run P w = .ok (.map es' c) w := by simp [getObj, Sem.run, g2]
        split at h
        · cases h
          refine ⟨_, s, rfl, E, .tuple #[.bool false], w, ?_, Grow.refl _ E, .tuple _ _ (.cons _ _ _ _ (.bool _) .nil), hW, Fwd.refl _⟩
          have he : es' = #[] := by
            obtain ⟨l⟩ := es'
            cases g3; rfl
          subst he
          rw [hv, h0]
          simp [Instr.next, hg, hg2, Question.forced]
        · rename_i e
          replace h := bif_some h; obtain ⟨hlt, h⟩ := h
          rw [ble_iff] at hlt
          split at h
          · rename_i s' hs
            cases h
            obtain ⟨⟨⟩ | ⟨e', l'⟩⟩ := es'
            · cases g3
            · cases g3 with
              | cons _ _ _ _ he ht =>
                cases ht
                have hw' := hW.write (x' := .iter (some m) since [e.born] c) hE hob (by simp) hs (SB.setObj l.B (.mapIter (some k.B) since #[e'.born] c)) ⟨h0, some k.B, by rw [← he.born]; exact (heap_set g1).1, k, hEm, rfl⟩
                refine ⟨_, s', rfl, E, .tuple #[.bool true, e'.key, e'.val], _, ?_, Grow.refl _ E, .tuple _ _ (.cons _ _ _ _ (.bool _) (.cons _ _ _ _ he.key (.cons _ _ _ _ he.val .nil))), hw', Fwd.set hs⟩
                have hlt' : e'.born < since := by rw [← he.born]; exact hlt
                have hset := run_setObj_any (P := P) (o' := .mapIter (some k.B) since #[e'.born] c) g1 (by simp)
                rw [hv, h0]
                simp [Instr.next, hg, hg2, Question.forced, hlt', hset, Nat.not_le.2 hlt']
          · cases h
        · rename_i b e
          replace h := bif_some h; obtain ⟨hb, h⟩ := h
          simp only [Bool.and_eq_true, beq_iff, ble_iff] at hb
          obtain ⟨rfl, hst⟩ := hb
          cases h
          obtain ⟨⟨⟩ | ⟨e', l'⟩⟩ := es'
          · cases g3
          · cases g3 with
            | cons _ _ _ _ he ht =>
              cases ht
              refine ⟨_, s, rfl, E, .tuple #[.bool false], w, ?_, Grow.refl _ E, .tuple _ _ (.cons _ _ _ _ (.bool _) .nil), hW, Fwd.refl _⟩
              have hst' : ¬ stepped ≤ e'.born := by rw [← he.born]; exact Nat.not_le.2 hst
              rw [hv, h0]
              simp [Instr.next, hg, hg2, Question.forced, hst', he.born]
        · cases h
      · cases h
    · cases h
  · cases h

/-! ### bytes as a string's -/
theorem freeze_OR {c : List AV} {z : Nat} {l : Loc} {C : Array Value} {el : TypeId} {fz : Nat × Nat} (hc : CR' E c l C fz) (hb : w.heap[l.B]? = some (.cells C el fz)) :
    SB l.B w (w.freeze ⟨l.B, C.size, none⟩ 1) ∧ OR E (.cells c z) l (w.freeze ⟨l.B, C.size, none⟩ 1) := by
  obtain ⟨lo, hi⟩ := fz
  refine ⟨⟨fun k hk => ?_, by simp [World.freeze], rfl, rfl, rfl⟩, C, el, if lo == hi then (C.size, C.size + 1) else (min lo C.size, max hi (C.size + 1)), ?_, hc.tot, hc.fits, ?_, hc.cell⟩
  · simp only [World.freeze, Nat.one_ne_zero, if_false, Array.getElem?_modify]
    rw [if_neg (Ne.symm hk)]
  · simp only [World.freeze, Nat.one_ne_zero, if_false, Array.getElem?_modify, if_true, hb]
    rfl
  · have hm := hc.marks
    simp only at hm
    by_cases e : lo = hi
    · simp [e]
    · have : (lo == hi) = false := by simp [e]
      rw [this]
      right
      simp only [Bool.false_eq_true, if_false]
      omega
theorem hConv_ok (hW : WR K w0 E s w) (hρ : OpR E G tm ρ) {src dst : TypeId} {x : Operand} {r : HR} (h : hConv P G tm s src dst x = some r) :
    ∃ v s', r = .val v s' ∧ NV K w0 P E s w (convert src dst (ρ x)) v s' := by
  have key : ∀ (e : TypeId) (b o n cap : Nat) (c : List AV) (l : Loc) (v : AV), P.underlying dst = some (.slice e) → P.underlying e = some (.int .u8) → cellsAt s b = some c → s.lo ≤ b → E b = some l → src = dst →
      VR E v (.slice (some ⟨l.B, l.o + o, none⟩) n cap) → NV K w0 P E s w (convert src dst (.slice (some ⟨l.B, l.o + o, none⟩) n cap)) v s := by
    intro e b o n cap c l v hd hu hc hlo hE hsd hv
    subst hsd
    obtain ⟨z, hob⟩ := cellsAt_some hc
    obtain ⟨C, el, fz, g1, g2⟩ := hW.obj _ _ _ hob hE
    obtain ⟨f1, f2⟩ := freeze_OR (z := z) g2 g1
    refine ⟨E, _, w.freeze ⟨l.B, C.size, none⟩ 1, ?_, Grow.refl _ E, hv, hW.touch hE hob (by simp) hlo f1 f2, Fwd.refl _⟩
    simp only [convert, Sem.run_bind, run_underlying hd, Result.andThen_ok, run_underlying hu, beq_self_eq_true, markStringish, run_shape, World.shape?, g1, run_freeze, Sem.run_pure]
  unfold hConv at h
  replace h := bif_some h; obtain ⟨hsd, h⟩ := h
  rw [beq_iff] at hsd
  split at h
  · rename_i e hd
    split at h
    · rename_i hu
      split at h
      · rename_i b o n c hx
        split at h
        · rename_i cc hc
          replace h := bif_some h; obtain ⟨hlo, h⟩ := h
          rw [ble_iff] at hlo
          cases h
          obtain ⟨l, hE, hv⟩ := sl_inv (hρ _ _ hx)
          exact ⟨_, _, rfl, by rw [hv]; exact key e b o n c cc l _ hd hu hc hlo hE hsd (.sl _ _ _ _ _ hE)⟩
        · cases h
      · rename_i b o n z hx
        split at h
        · rename_i cc hc
          replace h := bif_some h; obtain ⟨hlo, h⟩ := h
          rw [ble_iff] at hlo
          cases h
          obtain ⟨l, hE, hz, hv⟩ := slB_inv (hρ _ _ hx)
          exact ⟨_, _, rfl, by rw [hv]; exact key e b o n _ cc l _ hd hu hc hlo hE hsd (.slB _ _ _ _ _ hE hz)⟩
        · cases h
      · cases h
    · cases h
  · cases h

/-! ### copy -/
theorem hCopy_ok (hW : WR K w0 E s w) (hρ : OpR E G tm ρ) {args : List Operand} {ts : Array TypeId} {ty : TypeId} {r : HR} (h : hCopy P G tm s args ts.toList = some r) :
    ∃ v s', r = .val v s' ∧ NV K w0 P E s w (Builtin.copy_ ts ty ⟨args.map ρ⟩) v s' := by
  obtain ⟨ts⟩ := ts
  unfold hCopy at h
  split at h
  · rename_i d x t ts hev hts
    have hvs := evs_ok hρ hev
    generalize args.map ρ = vs at hvs
    cases hvs with
    | cons _ dv _ vs hdv h2 =>
    cases h2 with
    | cons _ xv _ vs hxv h3 =>
    cases h3
    subst hts
    split at h
    · rename_i e hu
      split at h
      · rename_i z dn sn hz hdn hsn
        split at h
        · rename_i cs hcs
          unfold copyGo at h
          replace h := bif_some h; obtain ⟨hc, h⟩ := h
          simp only [Bool.and_eq_true, beq_iff] at hc
          obtain ⟨hc1, hc2⟩ := hc
          obtain ⟨vs, f1, f2⟩ := firstX_ok (P := P) hW hcs hxv
          have hlen := lenX_ok (P := P) (w := w) hsn hxv
          rw [minN_eq] at f1 h
          have base : ∀ (a : Option Addr) (cap : Nat), dv = .slice a dn cap → (Builtin.copy_ ⟨t :: ts⟩ ty ⟨[dv, xv]⟩).run P w =
              ((match a with | some a => storeCells a vs | none => pure () : Sem Unit).run P w).andThen fun _ w => .ok (.int .i64 ((min sn dn : Nat) : Int)) w := by
            intro a cap q
            subst q
            have f1' : (Builtin.firstCells z (Nat.min sn dn) xv).run P w = .ok vs.toArray w := f1
            simp only [Builtin.copy_, List.getElem?_toArray, List.getElem?_cons_zero, List.getElem?_cons_succ, Sem.run_bind, run_underlying hu, Result.andThen_ok, hlen, run_sizeOf hz, f1']
            cases a with
            | none => simp [goInt]
            | some a => simp [goInt]
          split at h
          · rename_i n c
            cases h
            obtain ⟨_, _, rfl⟩ := sln_inv hdv
            simp only [lenS, Option.some.injEq] at hdn
            refine ⟨_, s, rfl, E, _, w, ?_, Grow.refl _ E, .int _ _, hW, Fwd.refl _⟩
            obtain ⟨rfl, _, _⟩ := sln_inv hdv
            rw [base none 0 (by rw [← hdn])]
            rfl
          · rename_i b o n c
            obtain ⟨l, hE, rfl⟩ := sl_inv hdv
            simp only [lenS, Option.some.injEq] at hdn
            split at h
            · rename_i s' hs
              cases h
              obtain ⟨w', g1, g2⟩ := hW.storeN (P := P) hs hE f2 hc2
              refine ⟨_, s', rfl, E, _, w', ?_, Grow.refl _ E, .int _ _, g2, Fwd.store hs⟩
              rw [base _ c (by rw [← hdn])]
              dsimp only
              rw [g1]; rfl
            · cases h
          · rename_i b o n z'
            obtain ⟨l, hE, _, rfl⟩ := slB_inv hdv
            simp only [lenS, Option.some.injEq] at hdn
            split at h
            · rename_i s' hs
              cases h
              obtain ⟨w', g1, g2⟩ := hW.storeN (P := P) hs hE f2 hc2
              refine ⟨_, s', rfl, E, _, w', ?_, Grow.refl _ E, .int _ _, g2, Fwd.store hs⟩
              rw [base _ _ (by rw [← hdn])]
              dsimp only
              rw [g1]; rfl
            · cases h
          · cases h
        · cases h
      · cases h
    · cases h
  · cases h
end
end Go.Ex
