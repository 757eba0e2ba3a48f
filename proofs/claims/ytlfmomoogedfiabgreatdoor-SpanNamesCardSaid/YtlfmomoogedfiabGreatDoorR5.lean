/- PROVED: strings, equality. Conditions: those in each theorem's own words (the abstract state stands for the world). By an AI agent. -/
import Derived.Test.YtlfmomoogedfiabGreatDoorR4
import Derived.Laws.StructEq
import Derived.ChangeKeysEq
import Derived.Laws.BytesString
namespace Go.Ex
section
variable {K : Nat → Prop} {w0 : World} {E : Env} {s : St} {w : World} {P : Program} {G : Nat} {tm : Tr AV} {ρ : Operand → Value}

/-! ### Strings -/
theorem less_eq : ∀ (a b : List UInt8), lessL (a.map (·.toNat)) (b.map (·.toNat)) = Op.bytesLess a b := by
  intro a
  induction a with
  | nil => intro b; cases b <;> rfl
  | cons x a ih =>
    intro b
    cases b with
    | nil => rfl
    | cons y b =>
      simp only [List.map_cons, lessL, Op.bytesLess, ih]
      have h1 : decide (x.toNat < y.toNat) = decide (x < y) := decide_eq_decide.2 (UInt8.lt_iff_toNat_lt).symm
      have h2 : decide (x.toNat = y.toNat) = (x == y) := by
        by_cases e : x = y
        · subst e; simp
        · have : x.toNat ≠ y.toNat := fun h => e (toNat_inj h)
          simp [e, this]
      rw [h1, h2]
theorem str_dec (s t : ByteArray) : decide (s.data.toList.map (·.toNat) = t.data.toList.map (·.toNat)) = (s.toList == t.toList) := by
  rw [ByteArray.toList_eq, ByteArray.toList_eq]
  by_cases h : s.data.toList = t.data.toList
  · rw [h]; simp
  · have : ¬ (s.data.toList.map (·.toNat) = t.data.toList.map (·.toNat)) := fun e => h (map_toNat_inj e)
    simp [this]
    intro e; exact absurd (by rw [e]) h
theorem strOp_ok {op : BinOp} {a b : ByteArray} {x : AV} {t : TypeId} (h : strOp op (a.data.toList.map (·.toNat)) (b.data.toList.map (·.toNat)) = some x) :
    ∃ v, (binOp op t (.string a) (.string b)).run P w = .ok v w ∧ VR E x v := by
  cases op <;> simp only [strOp] at h <;> (try (simp at h; done)) <;> (simp only [Option.some.injEq] at h; subst h)
  · exact ⟨.bool (a.toList == b.toList), by simp [binOp, Op.stringOp], by rw [str_dec]; exact .bool _⟩
  · exact ⟨.bool (!(a.toList == b.toList)), by simp [binOp, Op.stringOp], by rw [str_dec]; exact .bool _⟩
  · exact ⟨.bool (Op.bytesLess a.toList b.toList), by simp [binOp, Op.stringOp], by rw [less_eq, ByteArray.toList_eq, ByteArray.toList_eq]; exact .bool _⟩
  · exact ⟨.bool (!Op.bytesLess a.toList b.toList), by simp [binOp, Op.stringOp], by rw [less_eq, ByteArray.toList_eq, ByteArray.toList_eq]; exact .bool _⟩

/-! ### == -/
theorem cellsOf_siz {t : TypeId} {n : Nat} (h : siz P t = some n) : P.cellsOf t = n := by
  unfold siz at h; simp [Program.cellsOf, h]
theorem isNone_beq {α : Type} (o : Option α) : (match o with | none => true | some _ => false) = o.isNone := by cases o <;> rfl

theorem eqA_all : ∀ (d : Nat),
    (∀ (t : TypeId) (x y : AV) (u v : Value) (b : Bool) (D : Nat) (w : World), eqA P d t x y = some b → VR E x u → VR E y v → d ≤ D → (Op.equalIn D t u v).run P w = .ok b w) ∧
    (∀ (fs : List Field) (xs ys : List AV) (us vs : List Value) (b : Bool) (D : Nat) (w : World), eqF P d fs xs ys = some b → VRs E xs us → VRs E ys vs → d ≤ D → (Op.eqFields D ⟨us⟩ ⟨vs⟩ fs).run P w = .ok b w) ∧
    (∀ (e : TypeId) (z n i : Nat) (xs ys : List AV) (us vs : List Value) (b : Bool) (D : Nat) (w : World), eqE P d e z n i xs ys = some b → VRs E xs us → VRs E ys vs → d ≤ D →
      (Op.eqItems D e z ⟨us⟩ ⟨vs⟩ (List.range' i n)).run P w = .ok b w) := by
  intro d
  induction d with
  | zero => exact ⟨fun _ _ _ _ _ _ _ _ h => by simp [eqA] at h, fun _ _ _ _ _ _ _ _ h => by simp [eqF] at h, fun _ _ _ _ _ _ _ _ _ _ _ h => by simp [eqE] at h⟩
  | succ d ih =>
    obtain ⟨ihA, ihF, ihE⟩ := ih
    refine ⟨?_, ?_, ?_⟩
    · intro t x y u v b D w h hx hy hD
      obtain ⟨D, rfl⟩ : ∃ m, D = m + 1 := ⟨D - 1, by omega⟩
      unfold eqA at h
      split at h
      case h_1 hu => cases hx; cases hy; simp at h; subst h; simp [Op.equalIn, run_underlying hu]
      case h_2 hu =>
        cases hx; cases hy
        split at h
        · rename_i hk; subst hk; rw [eqF_beq] at h; simp at h; subst h; simp [Op.equalIn, run_underlying hu]
        · simp at h
      case h_3 hu =>
        cases hx with | str s1 l1 e1 => cases hy with | str s2 l2 e2 =>
        subst e1; subst e2
        rw [str_dec] at h; simp only [Option.some.injEq] at h; subst h
        rw [run_equalIn_string w D t s1 s2 hu]
      case h_4 hu => cases hx; cases hy <;> (simp at h; subst h; simp [Op.equalIn, run_underlying hu])
      case h_5 hu => cases hx; cases hy; simp at h; subst h; simp [Op.equalIn, run_underlying hu]
      case h_6 hu => cases hx; cases hy; simp at h; subst h; simp [Op.equalIn, run_underlying hu]
      case h_7 hu => cases hx; cases hy; simp at h; subst h; simp [Op.equalIn, run_underlying hu]
      case h_8 hu => cases hx; cases hy; simp at h; subst h; simp [Op.equalIn, run_underlying hu]
      case h_9 hu => cases hx; cases hy <;> (simp at h; subst h; simp [Op.equalIn, run_underlying hu])
      case h_10 hu => cases hx; cases hy; simp at h; subst h; simp [Op.equalIn, run_underlying hu]
      case h_11 hu => cases hx; generalize hq : v = v' at *; cases hy; simp at h; subst h; simp [Op.equalIn, run_underlying hu, emptyAt]
      case h_12 hu => cases hx; cases hy; simp at h; subst h; simp [Op.equalIn, run_underlying hu]
      case h_13 hu => cases hx; cases hy; simp at h; subst h; simp [Op.equalIn, run_underlying hu]
      case h_14 hu => cases hy; cases hx; simp at h; subst h; simp [Op.equalIn, run_underlying hu, emptyAt]
      case h_15 hu => cases hx; cases hy <;> (simp at h; subst h; simp [Op.equalIn, run_underlying hu])
      case h_16 hu => cases hx; cases hy; simp at h; subst h; simp [Op.equalIn, run_underlying hu]
      case h_17 fs xs ys hu =>
        cases hx with | agg _ us hx => cases hy with | agg _ vs hy =>
        split at h
        · simp at h
        · rename_i hst
          have hf : P.fieldsOf t = fs := by simp [Program.fieldsOf, hu]
          rw [run_equalIn_struct w D t ⟨us⟩ ⟨vs⟩ (by rw [hf]; exact hu) (by simpa using hst), hf]
          exact ihF _ _ _ _ _ _ _ _ h hx hy (by omega)
      case h_18 n e xs ys hu =>
        cases hx with | agg _ us hx => cases hy with | agg _ vs hy =>
        split at h
        · rename_i z hz
          obtain ⟨inf, h1, h2⟩ := siz_some hz
          rw [run_equalIn_array w D ⟨us⟩ ⟨vs⟩ hu h1, cellsOf_siz hz, List.range_eq_range']
          exact ihE _ _ _ _ _ _ _ _ _ _ _ h hx hy (by omega)
        · simp at h
      case h_19 => simp at h
    · intro fs xs ys us vs b D w h hx hy hD
      unfold eqF at h
      cases fs with
      | nil => simp at h; subst h; simp [Op.eqFields]
      | cons f fs =>
        simp only at h
        split at h
        · simp at h
        · rename_i hn
          split at h
          · rename_i x y hpx hpy
            obtain ⟨a1, r1, v1⟩ := run_part (P := P) (w := w) hpx hx
            obtain ⟨a2, r2, v2⟩ := run_part (P := P) (w := w) hpy hy
            simp only [Op.eqFields, ne_eq, hn, not_false_eq_true, if_true, Sem.run_bind, r1, r2, Result.andThen_ok]
            split at h
            · rename_i he
              rw [ihA _ _ _ _ _ _ _ _ he v1 v2 (by omega)]
              simp only [Result.andThen_ok, Bool.not_true, Bool.false_eq_true, if_false]
              exact ihF _ _ _ _ _ _ _ _ h hx hy (by omega)
            · rename_i hne
              rw [ihA _ _ _ _ _ _ _ _ h v1 v2 (by omega)]
              cases b with
              | true => exact absurd h hne
              | false => simp
          · simp at h
    · intro e z n i xs ys us vs b D w h hx hy hD
      cases n with
      | zero => simp [eqE] at h; subst h; simp [Op.eqItems]
      | succ n =>
        unfold eqE at h
        split at h
        · rename_i x y hpx hpy
          obtain ⟨a1, r1, v1⟩ := run_part (P := P) (w := w) hpx hx
          obtain ⟨a2, r2, v2⟩ := run_part (P := P) (w := w) hpy hy
          simp only [List.range'_succ, Op.eqItems, Sem.run_bind, r1, r2, Result.andThen_ok]
          split at h
          · rename_i he
            rw [ihA _ _ _ _ _ _ _ _ he v1 v2 (by omega)]
            simp only [Result.andThen_ok, Bool.not_true, Bool.false_eq_true, if_false]
            exact ihE _ _ _ _ _ _ _ _ _ _ _ h hx hy (by omega)
          · rename_i hne
            rw [ihA _ _ _ _ _ _ _ _ h v1 v2 (by omega)]
            cases b with
            | true => exact absurd h hne
            | false => simp
        · simp at h
theorem eqA_ok {d D : Nat} {t : TypeId} {x y : AV} {u v : Value} {b : Bool} (h : eqA P d t x y = some b) (hx : VR E x u) (hy : VR E y v) (hD : d ≤ D) :
    (Op.equalIn D t u v).run P w = .ok b w := (eqA_all d).1 t x y u v b D w h hx hy hD
end
end Go.Ex
