/- PROVED: operands, constants, integer arithmetic. Conditions: those in each theorem's own words (the abstract state stands for the world). By an AI agent. -/
import Derived.Test.YtlfmomoogedfiabGreatDoorR3
namespace Go.Ex

def TR (E : Env) (tm : Tr AV) (tmps : Array Value) : Prop := ∀ t x, tm.get t = some x → ∃ v, tmps[t]? = some v ∧ VR E x v
def Glob (E : Env) (G : Nat) : Prop := ∀ g, g < G → ∃ tot, E g = some ⟨g, 0, tot⟩
/-- operands as values -/
def OpR (E : Env) (G : Nat) (tm : Tr AV) (ρ : Operand → Value) : Prop := ∀ x r, evA G tm x = some r → VR E r (ρ x)

section
variable {K : Nat → Prop} {w0 : World} {E : Env} {s : St} {w : World} {P : Program} {G : Nat} {tm : Tr AV} {ρ : Operand → Value}

/-! ### Constants, operands -/
theorem ofV1_ok {v : Value} {x : AV} (h : ofV1 v = some x) : VR E x v := by
  unfold ofV1 at h
  split at h <;> (first | (simp at h; subst h) | (simp at h; done))
  · exact .bool _
  · exact .int _ _
  · exact .str _ _ rfl
  · exact .nilp
  · exact .nils
  · exact .nilm
  · exact .nilf
  · exact .nili
theorem ofVs_ok : ∀ {vs : List Value} {xs : List AV}, ofVs vs = some xs → VRs E xs vs := by
  intro vs
  induction vs with
  | nil => intro xs h; simp [ofVs] at h; subst h; exact .nil
  | cons v vs ih =>
    intro xs h
    simp only [ofVs] at h
    cases h1 : ofV1 v with
    | none => simp [h1] at h
    | some x =>
      cases h2 : ofVs vs with
      | none => simp [h1, h2] at h
      | some ys => simp [h1, h2] at h; subst h; exact .cons _ _ _ _ (ofV1_ok h1) (ih h2)
theorem ofV_ok {v : Value} {x : AV} (h : ofV v = some x) : VR E x v := by
  unfold ofV at h
  split at h
  · obtain ⟨xs, h1, h2⟩ := Option.map_eq_some_iff.1 h; subst h2; exact .agg _ _ (ofVs_ok h1)
  · obtain ⟨xs, h1, h2⟩ := Option.map_eq_some_iff.1 h; subst h2; exact .tuple _ _ (ofVs_ok h1)
  · exact ofV1_ok h
theorem evA_ok {a : Act} (hG : Glob E G) (hT : TR E tm a.tmps) : OpR E G tm a.eval := by
  intro x r h
  cases x with
  | tmp t =>
    obtain ⟨v, h1, h2⟩ := hT t r h
    simp [Act.eval, Array.getD_eq_getD_getElem?, h1, h2]
  | const v => exact ofV_ok h
  | global g =>
    simp only [evA] at h
    cases hb : Nat.ble (Nat.succ g) G with
    | false => simp [hb] at h
    | true =>
      simp [hb] at h; subst h
      obtain ⟨tot, h1⟩ := hG g (Nat.le_of_ble_eq_true hb)
      exact .ptr g 0 _ h1
  | func f => simp [evA] at h; subst h; exact .fn _ _ _ _ _ .nil .nil
theorem evs_ok (hρ : OpR E G tm ρ) : ∀ {l : List Operand} {xs : List AV}, evs G tm l = some xs → VRs E xs (l.map ρ) := by
  intro l
  induction l with
  | nil => intro xs h; simp [evs] at h; subst h; exact .nil
  | cons x l ih =>
    intro xs h
    simp only [evs] at h
    cases h1 : evA G tm x with
    | none => simp [h1] at h
    | some y =>
      cases h2 : evs G tm l with
      | none => simp [h1, h2] at h
      | some ys => simp [h1, h2] at h; subst h; exact .cons _ _ _ _ (hρ _ _ h1) (ih h2)

/-! ### Types -/
theorem run_zeroValue {t : TypeId} {x : AV} (h : zeroA P t = some x) : ∃ v, (∀ w, (zeroValue t).run P w = .ok v w) ∧ (∀ E, VR E x v) ∧ (P.info? t).bind (·.zero) = some v := by
  unfold zeroA at h
  cases hi : P.info? t with
  | none => simp [hi] at h
  | some i =>
    cases hz : i.zero with
    | none => simp [hi, hz] at h
    | some v =>
      simp [hi, hz] at h
      refine ⟨v, fun w => ?_, fun E => ofV_ok h, by simp [hz]⟩
      simp [zeroValue, run_typeInfo hi, hz]
theorem run_part {t : TypeId} {cs : List AV} {vs : List Value} {off : Nat} {x : AV} (h : partA P t cs off = some x) (hv : VRs E cs vs) :
    ∃ v, (part t ⟨vs⟩ off).run P w = .ok v w ∧ VR E x v := by
  unfold partA at h
  split at h
  · rename_i ha
    split at h
    · rename_i n hn
      cases ht : takeN n (dropN off cs) with
      | none => simp [ht] at h
      | some r =>
        simp [ht] at h; subst h
        obtain ⟨h1, h2⟩ := takeN_some ht
        rw [dropN_eq] at h1 h2
        refine ⟨.agg (Array.extract ⟨vs⟩ off (off + n)), ?_, ?_⟩
        · unfold part; simp [run_isAgg ha, run_sizeOf hn]
        · have : Array.extract (⟨vs⟩ : Array Value) off (off + n) = ⟨(vs.drop off).take n⟩ := by
            apply Array.ext'
            simp
          rw [this]
          exact .agg _ _ (h2 ▸ (hv.drop off).take n)
    · simp at h
  · rename_i ha
    rw [nth_eq] at h
    obtain ⟨v, h1, h2⟩ := hv.get h
    refine ⟨v, ?_, h2⟩
    unfold part
    simp [run_isAgg ha, h1]
  · simp at h

/-! ### Integers -/
theorem pw_eq (k : IntKind) : pw k = 2 ^ k.bits := by cases k <;> rfl
theorem pw_pos (k : IntKind) : 0 < pw k := by cases k <;> decide
theorem modk_lt (k : IntKind) (n : Int) : modk k n < pw k := by
  have := pw_pos k
  cases n with
  | ofNat m => exact Nat.mod_lt _ this
  | negSucc m => show pw k - 1 - _ < pw k; omega
theorem modk_eq (k : IntKind) (n : Int) : (modk k n : Int) = n % (pw k : Int) := by
  have hp := pw_pos k
  cases n with
  | ofNat m => rfl
  | negSucc m =>
    show ((pw k - 1 - m % pw k : Nat) : Int) = _
    have h1 := Nat.mod_lt m hp
    have h2 := Nat.div_add_mod m (pw k)
    rw [Int.negSucc_emod _ (by omega)]
    omega
theorem bits_pos (k : IntKind) : 0 < k.bits := by cases k <;> decide
theorem half_eq (k : IntKind) : pw k / 2 = 2 ^ (k.bits - 1) := by cases k <;> rfl
theorem cast_pow (n : Nat) : ((2 ^ n : Nat) : Int) = (2 : Int) ^ n := by simp
theorem wrapF_eq (k : IntKind) (n : Int) : wrapF k n = k.wrap n := by
  unfold wrapF IntKind.wrap
  have hm : n % (pw k : Int) = (modk k n : Int) := (modk_eq k n).symm
  have hp : (2 : Int) ^ k.bits = (pw k : Int) := by rw [pw_eq, cast_pow]
  have hh : (2 : Int) ^ (k.bits - 1) = ((pw k / 2 : Nat) : Int) := by rw [half_eq, cast_pow]
  have hlt := modk_lt k n
  rw [hp, hh]
  simp only [hm]
  cases hs : k.signed with
  | false => simp
  | true =>
    simp only [Bool.true_and]
    cases hb : Nat.ble (Nat.div (pw k) 2) (modk k n) with
    | true =>
      have := Nat.le_of_ble_eq_true hb
      have e : Nat.div (pw k) 2 = pw k / 2 := rfl
      rw [e] at this
      rw [if_pos (by simp; omega)]
      show Int.negSucc (pw k - 1 - modk k n) = _
      omega
    | false =>
      have : ¬ (pw k / 2 ≤ modk k n) := fun h => by rw [Nat.ble_eq_true_of_le (show Nat.div (pw k) 2 ≤ _ from h)] at hb; cases hb
      rw [if_neg (by simp; omega)]
      rfl
theorem ble_succ (a b : Nat) : Nat.ble (Nat.succ a) b = decide (a < b) := by
  cases h : Nat.ble (Nat.succ a) b with
  | true => have := Nat.le_of_ble_eq_true h; simp; omega
  | false =>
    have : ¬ (Nat.succ a ≤ b) := fun h' => by rw [Nat.ble_eq_true_of_le h'] at h; cases h
    simp; omega
theorem ltF_eq (a b : Int) : ltF a b = decide (a < b) := by
  cases a <;> cases b <;> simp only [ltF, Int.ofNat_eq_natCast, Int.negSucc_eq]
  · rw [ble_succ]; apply decide_eq_decide.2; omega
  · symm; rw [decide_eq_false_iff_not]; omega
  · symm; rw [decide_eq_true_iff]; omega
  · rw [ble_succ]; apply decide_eq_decide.2; omega
theorem beq_dec (a b : Nat) : Nat.beq a b = decide (a = b) := by
  cases h : Nat.beq a b with
  | true => simp [Nat.eq_of_beq_eq_true h]
  | false => simp; intro e; subst e; simp at h
theorem eqF_eq (a b : Int) : eqF' a b = decide (a = b) := by
  cases a <;> cases b <;> simp only [eqF', Int.ofNat_eq_natCast, Int.negSucc_eq]
  · rw [beq_dec]; apply decide_eq_decide.2; omega
  · symm; rw [decide_eq_false_iff_not]; omega
  · symm; rw [decide_eq_false_iff_not]; omega
  · rw [beq_dec]; apply decide_eq_decide.2; omega
theorem eqF_beq (a b : Int) : eqF' a b = (a == b) := by rw [eqF_eq]; rfl
theorem kEq_eq {j k : IntKind} (h : kEq j k = true) : j = k := by
  cases j <;> cases k <;> first | rfl | (exact absurd h (by decide))
theorem minN_eq (a b : Nat) : minN a b = min a b := by
  unfold minN
  cases h : Nat.ble a b with
  | true => have := Nat.le_of_ble_eq_true h; simp; omega
  | false => have : ¬ a ≤ b := fun h' => by rw [Nat.ble_eq_true_of_le h'] at h; cases h
             simp; omega
theorem notNeg_eq (a : Int) : notNeg a = decide (0 ≤ a) := by
  cases a <;> simp only [notNeg] <;> symm
  · rw [decide_eq_true_iff]; simp
  · rw [decide_eq_false_iff_not]; rw [Int.negSucc_eq]; omega

theorem ofInt_toNat (k : IntKind) (a : Int) : (BitVec.ofInt k.bits a).toNat = modk k a := by
  rw [BitVec.toNat_ofInt]
  have := modk_eq k a
  rw [pw_eq] at this
  omega
theorem intOp_ok {op : BinOp} {k : IntKind} {a b : Int} {x : AV} (h : intOp op k a b = some x) (hs : op ≠ .shl ∧ op ≠ .shr) :
    ∃ v, (match op with
    | .add | .sub | .mul => Op.intArith op k a b
    | .quo | .rem => Op.intDiv op k a b
    | .and | .or | .xor | .andNot => Op.intBits op k a b
    | _ => Op.intCmp op a b : Sem Value).run P w = .ok v w ∧ VR E x v := by
  have back : ∀ (r : BitVec k.bits), IntKind.wrap k r.toNat = wrapF k (.ofNat r.toNat) := fun r => (wrapF_eq _ _).symm
  cases op <;> simp only [intOp, addA, subA, mulA, quoA, remA, andA, orA, xorA, andNotA, blA] at h <;> (try (simp at h; done))
  case add => simp at h; subst h; exact ⟨_, rfl, by rw [show k.wrap (a + b) = wrapF k (Int.add a b) from (wrapF_eq _ _).symm]; exact .int _ _⟩
  case sub => simp at h; subst h; exact ⟨_, rfl, by rw [show k.wrap (a - b) = wrapF k (Int.sub a b) from (wrapF_eq _ _).symm]; exact .int _ _⟩
  case mul => simp at h; subst h; exact ⟨_, rfl, by rw [show k.wrap (a * b) = wrapF k (Int.mul a b) from (wrapF_eq _ _).symm]; exact .int _ _⟩
  case quo =>
    rw [eqF_eq] at h
    by_cases hb : b = 0
    · subst hb; simp at h
    · have : decide (b = Int.ofNat 0) = false := by simp; exact hb
      rw [this] at h; simp at h; subst h
      refine ⟨_, by simp only [Op.intDiv, if_neg hb]; rfl, by rw [wrapF_eq]; exact .int _ _⟩
  case rem =>
    rw [eqF_eq] at h
    by_cases hb : b = 0
    · subst hb; simp at h
    · have : decide (b = Int.ofNat 0) = false := by simp; exact hb
      rw [this] at h; simp at h; subst h
      refine ⟨_, by simp only [Op.intDiv, if_neg hb]; rfl, .int _ _⟩
  case and =>
    simp at h; subst h
    refine ⟨_, rfl, ?_⟩
    rw [back, BitVec.toNat_and, ofInt_toNat, ofInt_toNat]; exact .int _ _
  case or =>
    simp at h; subst h
    refine ⟨_, rfl, ?_⟩
    rw [back, BitVec.toNat_or, ofInt_toNat, ofInt_toNat]; exact .int _ _
  case xor =>
    simp at h; subst h
    refine ⟨_, rfl, ?_⟩
    rw [back, BitVec.toNat_xor, ofInt_toNat, ofInt_toNat]; exact .int _ _
  case andNot =>
    simp at h; subst h
    refine ⟨_, rfl, ?_⟩
    rw [back, BitVec.toNat_and, BitVec.toNat_not, ofInt_toNat, ofInt_toNat, ← pw_eq]
    exact .int _ _
  case eql => simp at h; subst h; exact ⟨_, rfl, by rw [eqF_beq]; exact .bool _⟩
  case neq => simp at h; subst h; exact ⟨_, rfl, by rw [eqF_beq]; exact .bool _⟩
  case lss => simp at h; subst h; exact ⟨_, rfl, by rw [ltF_eq]; exact .bool _⟩
  case gtr => simp at h; subst h; exact ⟨_, rfl, by rw [ltF_eq]; exact .bool _⟩
  case leq => simp at h; subst h; exact ⟨_, rfl, by rw [ltF_eq, show (!decide (b < a)) = decide (a ≤ b) by by_cases c : a ≤ b <;> simp [c] <;> omega]; exact .bool _⟩
  case geq => simp at h; subst h; exact ⟨_, rfl, by rw [ltF_eq, show (!decide (a < b)) = decide (a ≥ b) by by_cases c : b ≤ a <;> simp [c] <;> omega]; exact .bool _⟩
theorem intBin_ok {op : BinOp} {k k' : IntKind} {a b : Int} {x : AV} {t : TypeId} (h : intBin op k a k' b = some x) :
    ∃ v, (binOp op t (.int k a) (.int k' b)).run P w = .ok v w ∧ VR E x v := by
  unfold intBin at h
  split at h
  · cases b with
    | ofNat n =>
      simp only [shlA, Option.some.injEq] at h; subst h
      refine ⟨.int k (k.wrap (a * 2 ^ (min n k.bits))), ?_, ?_⟩
      · simp only [binOp, Op.shift]; rw [if_neg (by simp)]; rfl
      · rw [wrapF_eq, minN_eq, show Int.mul a (Int.ofNat (Nat.pow 2 (min n k.bits))) = a * 2 ^ (min n k.bits) by
          show a * ((2 ^ (min n k.bits) : Nat) : Int) = _
          rw [cast_pow]]
        exact .int _ _
    | negSucc n => simp at h
  · cases b with
    | ofNat n =>
      simp only [shrA] at h
      refine ⟨.int k (a.fdiv (2 ^ (min n k.bits))), ?_, ?_⟩
      · simp only [binOp, Op.shift]; rw [if_neg (by simp)]; rfl
      · simp only [minN_eq] at h
        have hp : (0 : Int) < 2 ^ (min n k.bits) := Int.pow_pos (by decide)
        rw [Int.fdiv_eq_ediv_of_nonneg _ (Int.le_of_lt hp)]
        cases a with
        | ofNat m =>
          simp at h; subst h
          rw [show Int.ofNat m / 2 ^ (min n k.bits) = ((m >>> (min n k.bits) : Nat) : Int) by rw [Nat.shiftRight_eq_div_pow, ← cast_pow]; rfl]
          exact .int _ _
        | negSucc m =>
          simp at h; subst h
          rw [show Int.negSucc m / 2 ^ (min n k.bits) = Int.negSucc (m >>> (min n k.bits)) by
            rw [Nat.shiftRight_eq_div_pow, ← cast_pow]
            have : 0 < 2 ^ (min n k.bits) := Nat.pow_pos (by decide)
            exact Int.negSucc_ediv _ (by omega)]
          exact .int _ _
    | negSucc n => simp at h
  · rename_i op h1 h2
    cases hk : kEq k k' with
    | false => simp [hk] at h
    | true =>
      have := kEq_eq hk; subst this
      simp [hk] at h
      obtain ⟨v, h3, h4⟩ := intOp_ok (P := P) (w := w) (E := E) h ⟨h1, h2⟩
      refine ⟨v, ?_, h4⟩
      rw [← h3]
      cases op <;> first | exact absurd rfl h1 | exact absurd rfl h2 | (simp only [binOp, ne_eq, not_true_eq_false, if_false]; done) | (simp only [binOp, ne_eq, not_true_eq_false, if_false]; rfl)
end
end Go.Ex
