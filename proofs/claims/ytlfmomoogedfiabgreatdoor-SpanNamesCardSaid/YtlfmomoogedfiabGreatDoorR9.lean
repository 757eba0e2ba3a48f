/- PROVED: slicing. Conditions: those in each theorem's own words (the abstract state stands for the world). By an AI agent. -/
import Derived.Test.YtlfmomoogedfiabGreatDoorR8
namespace Go.Ex
section
variable {K : Nat → Prop} {w0 : World} {E : Env} {s : St} {w : World} {P : Program} {G : Nat} {tm : Tr AV} {ρ : Operand → Value}

/-! ### Slicing -/
/-- a bound as a value -/
def BR (o : Option Nat) (v : Option Value) : Prop :=
  match o, v with
  | none, none => True
  | some n, some (.int _ i) => 0 ≤ i ∧ i.toNat = n
  | _, _ => False
def OVR (E : Env) (x : Option AV) (v : Option Value) : Prop :=
  match x, v with
  | none, none => True
  | some a, some u => VR E a u
  | _, _ => False
theorem bnd_ok {x : Option AV} {v : Option Value} {o : Option Nat} (h : bnd x = some o) (hx : OVR E x v) : BR o v := by
  cases x with
  | none =>
    cases v with
    | none => simp [bnd] at h; subst h; trivial
    | some u => exact hx.elim
  | some a =>
    cases v with
    | none => exact hx.elim
    | some u =>
      cases a <;> simp only [bnd] at h <;> (try (cases h; done))
      rename_i k i
      rw [int_inv hx]
      by_cases hi : 0 ≤ i
      · rw [if_pos hi] at h; cases h; exact ⟨hi, rfl⟩
      · rw [if_neg hi] at h; cases h
theorem optE_ok (hρ : OpR E G tm ρ) {x : Option Operand} {r : Option AV} (h : optE G tm x = some r) : OVR E r (x.map ρ) := by
  cases x with
  | none => simp [optE] at h; subst h; trivial
  | some x =>
    simp only [optE, Option.map_eq_some_iff] at h
    obtain ⟨a, h1, rfl⟩ := h
    exact hρ _ _ h1
theorem run_sliceBound {n y : Nat} {v : Value} {code : BoundsCode} (h : BR (some n) (some v)) (hn : n ≤ y) : (Instr.sliceBound v y code).run P w = .ok n w := by
  cases v with
  | int k i =>
    obtain ⟨h1, h2⟩ := h
    simp only [Instr.sliceBound, asIntOf, Sem.run_bind, Sem.run_pure, Result.andThen_ok]
    rw [if_pos ⟨h1, by omega⟩, h2]; rfl
  | _ => exact h.elim
theorem run_sliceBounds {isS : Bool} {len cap : Nat} {lo hi mx : Option Nat} {vl vh vm : Option Value} {l h m : Nat} (hl : BR lo vl) (hh : BR hi vh) (hm : BR mx vm)
    (el : l = lo.getD 0) (eh : h = hi.getD len) (em : m = mx.getD cap) (h1 : l ≤ h) (h2 : hi.isSome → h ≤ m) (h3 : m ≤ cap) (h4 : mx.isSome → hi.isSome) :
    (Instr.sliceBounds isS len cap vl vh vm).run P w = .ok (l, h, m) w := by
  subst el; subst eh; subst em
  cases mx with
  | none =>
    cases vm with
    | some v => exact hm.elim
    | none =>
      cases hi with
      | none =>
        cases vh with
        | some v => exact hh.elim
        | none =>
          cases lo with
          | none => cases vl with
            | some v => exact hl.elim
            | none => simp [Instr.sliceBounds]
          | some n => cases vl with
            | none => exact hl.elim
            | some v => simp [Instr.sliceBounds, run_sliceBound hl (show n ≤ len from h1)]
      | some n =>
        cases vh with
        | none => exact hh.elim
        | some v =>
          have hb := fun (code : BoundsCode) => run_sliceBound (P := P) (w := w) (code := code) hh (show n ≤ cap from h2 rfl)
          cases lo with
          | none => cases vl with
            | some v => exact hl.elim
            | none => simp [Instr.sliceBounds, hb]
          | some k => cases vl with
            | none => exact hl.elim
            | some u => simp [Instr.sliceBounds, hb, run_sliceBound hl (show k ≤ n from h1)]
  | some c =>
    cases vm with
    | none => exact hm.elim
    | some v =>
      have hbm := fun (code : BoundsCode) => run_sliceBound (P := P) (w := w) (code := code) hm (show c ≤ cap from h3)
      cases hi with
      | none => exact absurd (h4 rfl) (by simp)
      | some n =>
        cases vh with
        | none => exact hh.elim
        | some u =>
          have hb := fun (code : BoundsCode) => run_sliceBound (P := P) (w := w) (code := code) hh (show n ≤ c from h2 rfl)
          cases lo with
          | none => cases vl with
            | some v => exact hl.elim
            | none => simp [Instr.sliceBounds, hb, hbm]
          | some k => cases vl with
            | none => exact hl.elim
            | some t => simp [Instr.sliceBounds, hb, hbm, run_sliceBound hl (show k ≤ n from h1)]
theorem ble_iff (a b : Nat) : Nat.ble a b = true ↔ a ≤ b := ⟨Nat.le_of_ble_eq_true, Nat.ble_eq_true_of_le⟩
theorem beq_iff (a b : Nat) : Nat.beq a b = true ↔ a = b := by rw [beq_dec]; simp
theorem bif_some {α : Type} {c : Bool} {x : Option α} {r : α} (h : (bif c then x else none) = some r) : c = true ∧ x = some r := by
  cases c with
  | true => exact ⟨rfl, h⟩
  | false => simp at h
theorem moved_ok {b o d : Nat} {same : Bool} {l : Loc} (hE : E b = some l) (n c : Nat) :
    VR E (.sl (moved same (some (b, o)) d) n c) (.slice (if same = true then some ⟨l.B, l.o + o, none⟩ else some ((Addr.mk l.B (l.o + o) none).add d)) n c) := by
  cases same with
  | true => exact .sl _ _ _ _ _ hE
  | false =>
    simp only [moved, Bool.false_eq_true, if_false, add_none, Nat.add_assoc]
    exact .sl _ _ _ _ _ hE
theorem beq_if {α : Type} (m l : Nat) (x y : α) : (if m = l then x else y) = if (Nat.beq m l = true) then x else y := by
  by_cases h : m = l
  · rw [if_pos h, if_pos ((beq_iff _ _).2 h)]
  · rw [if_neg h, if_neg (fun q => h ((beq_iff _ _).1 q))]
theorem sliceA_ok (hW : WR K w0 E s w) {t : TypeId} {x r : AV} {v : Value} {lo hi mx : Option Nat} {vl vh vm : Option Value} (h : sliceA P s t x lo hi mx = some r) (hx : VR E x v)
    (hl : BR lo vl) (hh : BR hi vh) (hm : BR mx vm) : ∃ z, (Instr.sliceAt t v vl vh vm).run P w = .ok z w ∧ VR E r z := by
  unfold sliceA at h
  split at h
  · rename_i e hu
    split at h
    · rename_i z hz
      split at h
      · -- an exact slice
        rename_i a len cap
        unfold slS at h
        replace h := bif_some h; obtain ⟨hc, h⟩ := h
        simp only [Bool.and_eq_true, ble_iff] at hc
        obtain ⟨⟨⟨c4, c1⟩, c2⟩, c3⟩ := hc
        have c4' : mx.isSome = true → hi.isSome = true := by
          intro q; cases mx <;> simp at q c4; exact c4
        simp only [Option.some.injEq] at h; subst h
        have hb := run_sliceBounds (P := P) (w := w) (isS := true) (len := len) (cap := cap) hl hh hm rfl rfl rfl c1 (fun _ => c2) c3 c4'
        cases a with
        | none =>
          obtain ⟨rfl, rfl, rfl⟩ := sln_inv hx
          have e1 : hi.getD 0 - lo.getD 0 = 0 := by omega
          have e2 : mx.getD 0 - lo.getD 0 = 0 := by omega
          refine ⟨.slice none 0 0, ?_, ?_⟩
          · simp only [Instr.sliceAt, Sem.run_bind, run_underlying hu, Result.andThen_ok, Instr.slice, hb, run_sizeOf hz, Sem.run_pure]
            simp [e1, e2]
          · rw [show Nat.sub (hi.getD 0) (lo.getD 0) = 0 from e1, show Nat.sub (mx.getD 0) (lo.getD 0) = 0 from e2]
            cases Nat.beq (mx.getD 0) (lo.getD 0) <;> exact .nils
        | some a =>
          obtain ⟨b, o⟩ := a
          obtain ⟨l, hE, rfl⟩ := sl_inv hx
          refine ⟨_, by simp only [Instr.sliceAt, Sem.run_bind, run_underlying hu, Result.andThen_ok, Instr.slice, hb, run_sizeOf hz, Sem.run_pure]; rfl, ?_⟩
          rw [beq_if]
          exact moved_ok hE _ _
      · -- of unknown capacity
        rename_i b o len z'
        obtain ⟨l, hE, _, rfl⟩ := slB_inv hx
        split at h
        · rename_i c hc
          replace h := bif_some h; obtain ⟨hzz, h⟩ := h
          rw [beq_iff] at hzz; subst hzz
          rename_i hz0
          obtain ⟨C, el, fz, g1, g2⟩ := hW.cells hc hE
          have hfit := g2.fits
          have htot := g2.tot
          have hcap : ∀ n, o + n * z ≤ c.length → n ≤ (l.tot - l.o - o) / z := fun n hn => by
            rw [Nat.le_div_iff_mul_le hz0]; omega
          unfold slU at h
          split at h
          · rename_i m
            replace h := bif_some h; obtain ⟨hc', h⟩ := h
            simp only [Bool.and_eq_true, ble_iff] at hc'
            obtain ⟨⟨⟨c3, c1⟩, c2⟩, c4⟩ := hc'
            simp only [Option.some.injEq] at h; subst h
            have hb := run_sliceBounds (P := P) (w := w) (isS := true) (len := len) (cap := (l.tot - l.o - o) / z) hl hh hm rfl rfl rfl c1 (fun _ => by simpa using c2) (by simpa using hcap m c4) (fun _ => c3)
            refine ⟨_, by simp only [Instr.sliceAt, Sem.run_bind, run_underlying hu, Result.andThen_ok, Instr.slice, hb, run_sizeOf hz, Sem.run_pure]; rfl, ?_⟩
            rw [beq_if]
            exact moved_ok hE _ _
          · replace h := bif_some h; obtain ⟨hc', h⟩ := h
            simp only [Bool.and_eq_true, ble_iff] at hc'
            obtain ⟨c1, c2⟩ := hc'
            have hcc := hcap _ c2
            have hb := run_sliceBounds (P := P) (w := w) (isS := true) (len := len) (cap := (l.tot - l.o - o) / z) hl hh hm rfl rfl rfl c1 (fun _ => by simpa using hcc) (by simp) (by simp)
            refine ⟨_, by simp only [Instr.sliceAt, Sem.run_bind, run_underlying hu, Result.andThen_ok, Instr.slice, hb, run_sizeOf hz, Sem.run_pure]; rfl, ?_⟩
            have egd : (none : Option Nat).getD ((l.tot - l.o - o) / z) = (l.tot - l.o - o) / z := rfl
            rw [egd]
            split at h
            · rename_i e1
              rw [beq_iff] at e1
              rw [e1, Nat.sub_self]
              split at h
              · rename_i e2
                rw [beq_iff] at e2
                simp only [Option.some.injEq] at h; subst h
                rw [e2]
                have : (if (l.tot - l.o - o) / z = 0 then (some (Addr.mk l.B (l.o + o) none)) else Option.map (fun x : Addr => x.add (0 * z)) (some ⟨l.B, l.o + o, none⟩)) = some ⟨l.B, l.o + o, none⟩ := by
                  split
                  · rfl
                  · simp [add_none]
                rw [this]
                exact .slB _ _ _ _ _ hE hz0
              · simp only [Option.some.injEq] at h; subst h
                have := VR.slE (E := E) b o (lo.getD 0) z l hE hz0
                unfold emptyAt at this
                by_cases e3 : (l.tot - l.o - o) / z = lo.getD 0
                · rw [if_pos e3] at this; rw [if_pos e3]; exact this
                · rw [if_neg e3] at this; rw [if_neg e3]
                  simp only [Option.map_some, add_none, Nat.add_assoc]
                  exact this
            · rename_i e1
              have e1' : hi.getD len ≠ lo.getD 0 := fun q => by rw [(beq_iff _ _).2 q] at e1; cases e1
              simp only [Option.some.injEq] at h; subst h
              have hne : (l.tot - l.o - o) / z ≠ lo.getD 0 := by omega
              rw [if_neg hne]
              simp only [Option.map_some, add_none, Nat.add_assoc]
              have e4 : (l.tot - l.o - o) / z - lo.getD 0 = (l.tot - l.o - (o + lo.getD 0 * z)) / z := by
                rw [show l.tot - l.o - (o + lo.getD 0 * z) = (l.tot - l.o - o) - z * lo.getD 0 by rw [Nat.mul_comm z]; omega, Nat.sub_mul_div]
              rw [e4]
              exact .slB _ _ _ _ _ hE hz0
        · simp at h
      · simp at h
    · simp at h
  · -- an array
    rename_i n e hu
    split at h
    · rename_i z hz
      split at h
      · rename_i b o
        obtain ⟨l, hE, rfl⟩ := ptr_inv hx
        unfold slS at h
        replace h := bif_some h; obtain ⟨hc, h⟩ := h
        simp only [Bool.and_eq_true, ble_iff] at hc
        obtain ⟨⟨⟨c4, c1⟩, c2⟩, c3⟩ := hc
        have hmx : mx = none := by cases mx <;> simp at c4 ⊢
        subst hmx
        simp only [Option.some.injEq] at h; subst h
        have hb := run_sliceBounds (P := P) (w := w) (isS := false) (len := n) (cap := n) hl hh hm rfl rfl rfl c1 (fun _ => c2) c3 (by simp)
        refine ⟨_, by simp only [Instr.sliceAt, Sem.run_bind, run_underlying hu, Result.andThen_ok, Instr.sureAddr, hb, run_sizeOf hz, Sem.run_pure]; rfl, ?_⟩
        have e5 : some (if n = lo.getD 0 then Addr.mk l.B (l.o + o) none else (Addr.mk l.B (l.o + o) none).add (lo.getD 0 * z)) =
            if (Nat.beq n (lo.getD 0) = true) then some (Addr.mk l.B (l.o + o) none) else some ((Addr.mk l.B (l.o + o) none).add (lo.getD 0 * z)) := by
          rw [← beq_if]; split <;> rfl
        have egd : (none : Option Nat).getD n = n := rfl
        rw [egd, e5]
        exact moved_ok hE _ _
      · simp at h
    · simp at h
  · simp at h
theorem lSlice_ok (hW : WR K w0 E s w) (hρ : OpR E G tm ρ) {t : TypeId} {x : Operand} {lo hi mx : Option Operand} {r : AV} (h : lSlice P G tm s t x lo hi mx = some r) :
    ∃ z, (Instr.sliceAt t (ρ x) (lo.map ρ) (hi.map ρ) (mx.map ρ)).run P w = .ok z w ∧ VR E r z := by
  unfold lSlice at h
  split at h
  · rename_i v l1 h1 m1 hv hl hh hm
    split at h
    · rename_i l2 h2 m2 bl bh bm
      exact sliceA_ok hW h (hρ _ _ hv) (bnd_ok bl (optE_ok hρ hl)) (bnd_ok bh (optE_ok hρ hh)) (bnd_ok bm (optE_ok hρ hm))
    · simp at h
  · simp at h
end
end Go.Ex
