/- PROVED: append, in the model's own steps. Conditions: those in each theorem's own words (the abstract state stands for the world). By an AI agent. -/
import Derived.Test.YtlfmomoogedfiabGreatDoorR12
namespace Go.Ex
section
variable {K : Nat → Prop} {w0 : World} {E : Env} {s : St} {w : World} {P : Program} {G : Nat} {tm : Tr AV} {ρ : Operand → Value}

/-! ### First elements, of a slice or of a string -/
theorem lenX_ok {x : AV} {v : Value} {n : Nat} (h : lenX x = some n) (hx : VR E x v) : (Builtin.lenOf v).run P w = .ok n w := by
  cases x with
  | str l =>
    obtain ⟨t, rfl, rfl⟩ := str_inv hx
    simp [lenX] at h
    simp [Builtin.lenOf, h]
  | _ =>
    simp only [lenX] at h
    obtain ⟨a, c, rfl⟩ := lenS_len h hx
    simp [Builtin.lenOf]
theorem firstX_ok (hW : WR K w0 E s w) {z n : Nat} {x : AV} {v : Value} {cs : List AV} (h : firstA s z n x = some cs) (hx : VR E x v) :
    ∃ vs, (Builtin.firstCells z n v).run P w = .ok vs.toArray w ∧ VRs E cs vs := by
  by_cases hl : lenS x = none
  · cases x <;> simp [lenS] at hl <;> simp only [firstA] at h <;> (try (cases h; done))
    rename_i l
    obtain ⟨t, rfl, rfl⟩ := str_inv hx
    simp only [Option.some.injEq] at h
    subst h
    rw [takeL_eq]
    refine ⟨(t.data.toList.take n).map fun b => .int .u8 b.toNat, ?_, ?_⟩
    · simp only [Builtin.firstCells, Sem.run_pure]
      congr 1
      apply Array.ext'
      simp [ByteArray.data_extract]
    · rw [← List.map_take, List.map_map]
      induction t.data.toList.take n with
      | nil => exact .nil
      | cons a l ih => exact .cons _ _ _ _ (.int _ _) ih
  · exact firstA_ok hW h hx hl

/-! ### append -/
theorem wrap_small {n : Nat} (hn : n ≤ 1000000) : IntKind.i64.wrap (n : Int) = n := by
  rw [← wrapF_eq]
  have hm : modk .i64 (n : Int) = n := by
    show n % 18446744073709551616 = n
    exact Nat.mod_eq_of_lt (by omega)
  have hb : Nat.ble (Nat.div (pw .i64) 2) n = false := by
    cases hq : Nat.ble (Nat.div (pw .i64) 2) n with
    | false => rfl
    | true => have := Nat.le_of_ble_eq_true hq; simp only [show Nat.div (pw .i64) 2 = 9223372036854775808 from rfl] at this; omega
  unfold wrapF
  simp only [show IntKind.i64.signed = true from rfl, hm, hb]
  rfl
theorem growBy_le (need : Nat) : ∀ r c, Builtin.growBy need r c ≤ 2 ^ r * (c + 768) := by
  intro r
  induction r with
  | zero => intro c; simp [Builtin.growBy]
  | succ r ih =>
    intro c
    unfold Builtin.growBy
    split
    · have : 1 ≤ 2 ^ (r + 1) := Nat.one_le_two_pow
      have := Nat.mul_le_mul this (Nat.le_refl (c + 768))
      omega
    · refine Nat.le_trans (ih _) ?_
      rw [Nat.pow_succ, Nat.mul_assoc]
      exact Nat.mul_le_mul (Nat.le_refl _) (by omega)
theorem capOK {need cap bytes : Nat} (h1 : need ≤ 2000000) (h2 : cap ≤ 2000000) (h3 : bytes ≤ 1000000) : ¬ (Builtin.nextslicecap need cap * bytes > 2 ^ 48) := by
  have hn : Builtin.nextslicecap need cap ≤ 40000000 := by
    have h4 := growBy_le need 4 cap
    rw [show (2 : Nat) ^ 4 = 16 by decide] at h4
    unfold Builtin.nextslicecap
    generalize Builtin.growBy need 4 cap = g at h4 ⊢
    by_cases c1 : need > 2 * cap
    · rw [if_pos c1]; exact Nat.le_trans h1 (by decide)
    · rw [if_neg c1]
      by_cases c2 : cap < 256
      · rw [if_pos c2]; exact Nat.le_trans (show 2 * cap ≤ 512 by omega) (by decide)
      · rw [if_neg c2]; exact Nat.le_trans h4 (Nat.le_trans (Nat.mul_le_mul (Nat.le_refl 16) (Nat.add_le_add_right h2 768)) (by decide))
  have h5 := Nat.mul_le_mul hn h3
  generalize Builtin.nextslicecap need cap * bytes = g at h5
  omega
/-- what is appended, in the model -/
structure AppR (P : Program) (ts : Array TypeId) (xv : Value) (inf : TypeInfo) (e : TypeId) (zs : Bool) (n : Nat) (w : World) (vs : Array Value) : Prop where
  kind : (match ts[1]? with
    | some xt => (do match ← underlying xt with | .int _ => pure true | _ => pure false : Sem Bool)
    | none => pure false).run P w = .ok zs w
  sl : zs = false → (Builtin.lenOf xv).run P w = .ok n w ∧ ∀ d, (Builtin.firstCells inf.size n xv).run P { w with drawn := d } = .ok vs { w with drawn := d }
  zer : zs = true → xv = .int .i64 n ∧ n ≤ 1000000 ∧ ∃ zv, (∀ w, (zeroValue e).run P w = .ok zv w) ∧ vs = (if n * inf.size = 0 then #[] else Builtin.zeroCells zv.cells n)
theorem appNew_ok (hW : WR K w0 E s w) {ts : Array TypeId} {x : AV} {xv : Value} {inf : TypeInfo} {e : TypeId} {n : Nat} {cs : List AV} (hi : P.info? e = some inf)
    (h : appNew s (isZs P ts[1]?) inf.zero inf.size x = some (n, cs)) (hx : VR E x xv) : ∃ zs vs, AppR P ts xv inf e zs n w vs ∧ VRs E cs vs.toList := by
  unfold appNew at h
  split at h
  · cases h
  · rename_i hz
    have hk : (match ts[1]? with
      | some xt => (do match ← underlying xt with | .int _ => pure true | _ => pure false : Sem Bool)
      | none => pure false).run P w = .ok true w := by
      unfold isZs at hz
      split at hz
      · rename_i xt ht
        split at hz
        · rename_i hu; simp only [ht, Sem.run_bind, run_underlying hu, Result.andThen_ok, Sem.run_pure]
        · cases hz
        · cases hz
      · cases hz
    split at h
    · rename_i k
      replace h := bif_some h; obtain ⟨hk1, h⟩ := h
      split at h
      · rename_i zv hzv
        replace h := bif_some h; obtain ⟨hl, h⟩ := h
        rw [beq_iff] at hl
        rw [ble_iff] at hk1
        cases h
        have hz0 : zeroA P e = some zv := by simp [zeroA, hi, hzv]
        obtain ⟨v, z1, z2, _⟩ := run_zeroValue hz0
        refine ⟨true, _, ⟨hk, by simp, fun _ => ⟨int_inv hx, hk1, v, z1, rfl⟩⟩, ?_⟩
        obtain ⟨Z, c1, c2⟩ := rep_ok (w := w) (E := E) (n := n) hz0
        have hvl : v.cells.size = inf.size := by rw [← hl]; simpa using (z2 E).cells.length.symm
        rw [hl] at c1 c2
        rcases c1 with ⟨c0, rfl⟩ | ⟨c0, v', c1, rfl⟩
        · rw [if_pos c0]
          rw [c0] at c2
          simpa using c2
        · rw [if_neg c0]
          rw [z1] at c1
          cases c1
          unfold Builtin.zeroCells
          rw [hvl]
          simpa [hvl] using c2
      · cases h
    · cases h
  · rename_i hz
    have hk : (match ts[1]? with
      | some xt => (do match ← underlying xt with | .int _ => pure true | _ => pure false : Sem Bool)
      | none => pure false).run P w = .ok false w := by
      unfold isZs at hz
      split at hz
      · rename_i xt ht
        split at hz
        · cases hz
        · rename_i d hnot hu
          simp only [ht, Sem.run_bind, run_underlying hu, Result.andThen_ok]
          cases d <;> first | exact absurd hu (hnot _) | rfl
        · cases hz
      · rename_i ht; simp only [ht, Sem.run_pure]
    split at h
    · rename_i m hm
      split at h
      · rename_i cs' hcs
        cases h
        obtain ⟨vs, h1, h2⟩ := firstX_ok (P := P) hW hcs hx
        refine ⟨false, vs.toArray, ⟨hk, fun _ => ⟨lenX_ok hm hx, fun d => ?_⟩, by simp⟩, h2⟩
        obtain ⟨vs', h3, h4⟩ := firstX_ok (P := P) (hW.drawn d) hcs hx
        rw [h3, h2.fun h4]
      · cases h
    · cases h
/-- append, in place -/
theorem run_append_in {ts : Array TypeId} {ty t e : TypeId} {inf : TypeInfo} {base : Option Addr} {len cap n : Nat} {xv : Value} {zs : Bool} {vs : Array Value} (ht : ts[0]? = some t) (hu : P.underlying t = some (.slice e))
    (hi : P.info? e = some inf) (hb : inf.bytes ≤ 1000000) (hA : AppR P ts xv inf e zs n w vs) (hc : len + n ≤ cap) :
    (Builtin.append_ ts ty #[.slice base len cap, xv]).run P w =
      ((match base with | some a => storeCells (a.add (len * inf.size)) vs.toList | none => pure () : Sem Unit).run P w).andThen fun _ w => .ok (.slice base (len + n) cap) w := by
  have hsz : (sizeOf e).run P w = .ok inf.size w := by simp [sizeOf, run_typeInfo hi]
  have hk := hA.kind
  cases zs with
  | false =>
    obtain ⟨g1, g2⟩ := hA.sl rfl
    have g3 := g2 w.drawn
    unfold Builtin.append_
    cases h1 : ts[1]? with
    | none =>
      simp only [ht, h1, List.getElem?_toArray, List.getElem?_cons_zero, List.getElem?_cons_succ, Sem.run_bind, run_underlying hu, Result.andThen_ok, hsz, Sem.run_pure, Bool.false_eq_true, if_false, g1, Bool.not_false, if_true, hc, g3]
      cases base <;> simp
    | some xt =>
      rw [h1] at hk
      cases hx : P.underlying xt with
      | none => simp [underlying, hx] at hk
      | some d =>
        have hd : ∀ k, d ≠ .int k := by
          intro k q; subst q
          simp [run_underlying hx] at hk
        have hkk : (match d with | .int _ => true | _ => false) = false := by cases d <;> first | rfl | exact absurd rfl (hd _)
        simp only [ht, List.getElem?_toArray, List.getElem?_cons_zero, List.getElem?_cons_succ, Sem.run_bind, run_underlying hu, run_underlying hx, Result.andThen_ok, hsz, Sem.run_pure, hkk, Bool.false_eq_true, if_false, g1, Bool.not_false, if_true, hc, g3]
        cases base <;> simp
  | true =>
    obtain ⟨rfl, hn, zv, hz, rfl⟩ := hA.zer rfl
    unfold Builtin.append_
    cases h1 : ts[1]? with
    | none => rw [h1] at hk; simp at hk
    | some xt =>
      rw [h1] at hk
      cases hx : P.underlying xt with
      | none => simp [underlying, hx] at hk
      | some d =>
        have hkk : ∃ k, d = .int k := by
          simp only [Sem.run_bind, run_underlying hx, Result.andThen_ok] at hk
          cases d <;> first | exact ⟨_, rfl⟩ | (simp at hk; done)
        obtain ⟨k, rfl⟩ := hkk
        have w1 : IntKind.i64.wrap (n : Int) = n := wrap_small hn
        have n1 : ¬ ((n : Int) < 0) := by omega
        have n2 : ¬ ((n : Int) * (inf.bytes : Int) > 2 ^ 48) := by
          have : n * inf.bytes ≤ 1000000 * 1000000 := Nat.mul_le_mul hn hb
          have h2 : (n : Int) * inf.bytes = ((n * inf.bytes : Nat) : Int) := by simp
          rw [h2]; omega
        simp only [ht, List.getElem?_toArray, List.getElem?_cons_zero, List.getElem?_cons_succ, Sem.run_bind, run_underlying hu, run_underlying hx, Result.andThen_ok, hsz, Sem.run_pure, if_true, asInt, asIntOf, w1, n1, if_false, run_typeInfo hi, n2, Int.toNat_natCast, Bool.not_true, Bool.false_eq_true, hc]
        by_cases c0 : n * inf.size = 0
        · simp only [c0, if_true, Sem.run_pure, Result.andThen_ok]
          cases base <;> simp
        · simp only [c0, if_false, Sem.run_pure, Result.andThen_ok, hz, Sem.run_bind]
          cases base <;> simp
theorem run_append_grow {ts : Array TypeId} {ty t e : TypeId} {inf : TypeInfo} {base : Option Addr} {len cap n : Nat} {xv zv : Value} {zs : Bool} {vs old : Array Value} (ht : ts[0]? = some t) (hu : P.underlying t = some (.slice e))
    (hi : P.info? e = some inf) (hb : inf.bytes ≤ 1000000) (hA : AppR P ts xv inf e zs n w vs) (hc : ¬ len + n ≤ cap) (hl : len + n ≤ 2000000) (hcap : cap ≤ 2000000)
    (hold : ∀ d, (Builtin.firstCells inf.size len (.slice base len cap)).run P { w with drawn := d } = .ok old { w with drawn := d }) (hz : ∀ w, (zeroValue e).run P w = .ok zv w) :
    ∃ newCap, len + n ≤ newCap ∧ (Builtin.append_ ts ty #[.slice base len cap, xv]).run P w =
      .ok (.slice (some ⟨w.heap.size, 0, none⟩) (len + n) newCap) { w with heap := w.heap.push (.cells (old ++ vs ++ Builtin.zeroCells zv.cells (newCap - (len + n))) e), drawn := w.drawn + 1 } := by
  have hsz : (sizeOf e).run P w = .ok inf.size w := by simp [sizeOf, run_typeInfo hi]
  have hk := hA.kind
  have hmax : IntKind.i64.max = 9223372036854775807 := by decide
  have m1 : ¬ (((len + n : Nat) : Int) > IntKind.i64.max) := by rw [hmax]; omega
  have m2 := capOK hl hcap hb
  refine ⟨(Question.appendCap (len + n) cap e).cut (w.tape w.drawn (.appendCap (len + n) cap e)), by simp only [Question.cut]; omega, ?_⟩
  cases zs with
  | false =>
    obtain ⟨g1, g2⟩ := hA.sl rfl
    have g3 := g2 (w.drawn + 1)
    have g4 := hold (w.drawn + 1)
    unfold Builtin.append_
    cases h1 : ts[1]? with
    | none =>
      simp only [ht, List.getElem?_toArray, List.getElem?_cons_zero, List.getElem?_cons_succ, Sem.run_bind, run_underlying hu, Result.andThen_ok, hsz, Sem.run_pure, Bool.false_eq_true, if_false, g1, Bool.not_false, if_true, hc, m1, false_and, run_typeInfo hi, m2, run_choose, Question.forced, run_askRoom, g3, g4, hz, newRow, run_newObj]
    | some xt =>
      rw [h1] at hk
      cases hx : P.underlying xt with
      | none => simp [underlying, hx] at hk
      | some d =>
        have hd : ∀ k, d ≠ .int k := by
          intro k q; subst q
          simp [run_underlying hx] at hk
        have hkk : (match d with | .int _ => true | _ => false) = false := by cases d <;> first | rfl | exact absurd rfl (hd _)
        simp only [ht, List.getElem?_toArray, List.getElem?_cons_zero, List.getElem?_cons_succ, Sem.run_bind, run_underlying hu, run_underlying hx, Result.andThen_ok, hsz, Sem.run_pure, hkk, Bool.false_eq_true, if_false, g1, Bool.not_false, if_true, hc, m1, false_and, run_typeInfo hi, m2, run_choose, Question.forced, run_askRoom, g3, g4, hz, newRow, run_newObj]
  | true =>
    obtain ⟨rfl, hn, zv', hz', rfl⟩ := hA.zer rfl
    have g4 := hold (w.drawn + 1)
    unfold Builtin.append_
    cases h1 : ts[1]? with
    | none => rw [h1] at hk; simp at hk
    | some xt =>
      rw [h1] at hk
      cases hx : P.underlying xt with
      | none => simp [underlying, hx] at hk
      | some d =>
        have hkk : ∃ k, d = .int k := by
          simp only [Sem.run_bind, run_underlying hx, Result.andThen_ok] at hk
          cases d <;> first | exact ⟨_, rfl⟩ | (simp at hk; done)
        obtain ⟨k, rfl⟩ := hkk
        have w1 : IntKind.i64.wrap (n : Int) = n := wrap_small hn
        have n1 : ¬ ((n : Int) < 0) := by omega
        have n2 : ¬ ((n : Int) * (inf.bytes : Int) > 2 ^ 48) := by
          have : n * inf.bytes ≤ 1000000 * 1000000 := Nat.mul_le_mul hn hb
          have h2 : (n : Int) * inf.bytes = ((n * inf.bytes : Nat) : Int) := by simp
          rw [h2]; omega
        simp only [ht, List.getElem?_toArray, List.getElem?_cons_zero, List.getElem?_cons_succ, Sem.run_bind, run_underlying hu, run_underlying hx, Result.andThen_ok, hsz, Sem.run_pure, if_true, asInt, asIntOf, w1, n1, if_false, run_typeInfo hi, n2, Int.toNat_natCast, Bool.not_true, Bool.false_eq_true, hc, m1, false_and, m2, run_choose, Question.forced, run_askRoom, g4]
        by_cases c0 : n * inf.size = 0
        · simp only [c0, if_true, Sem.run_pure, Result.andThen_ok, hz, newRow, run_newObj, Sem.run_bind]
        · have ez : zv = zv' := by
            have q := hz w
            rw [hz' w] at q
            cases q; rfl
          subst ez
          simp only [c0, if_false, Sem.run_pure, Result.andThen_ok, hz, newRow, run_newObj, Sem.run_bind]
end
end Go.Ex
