/- PROVED: map look-ups, type assertions, parts of tuples. Conditions: those in each theorem's own words (the abstract state stands for the world). By an AI agent. -/
import Derived.Test.YtlfmomoogedfiabGreatDoorR9
import Derived.MapKept
import Derived.WideKeyRuns
namespace Go.Ex
open Go.MapKept
section
variable {K : Nat → Prop} {w0 : World} {E : Env} {s : St} {w : World} {P : Program} {G : Nat} {tm : Tr AV} {ρ : Operand → Value}

/-! ### Keys -/
theorem forIn_ok {α : Type} {f : α → PUnit → Sem (ForInStep PUnit)} : ∀ {is : List α}, (∀ i ∈ is, (f i ⟨⟩).run P w = .ok (.yield ⟨⟩) w) → (forIn is PUnit.unit f : Sem PUnit).run P w = .ok ⟨⟩ w := by
  intro is
  induction is with
  | nil => intro _; simp
  | cons i is ih =>
    intro h
    simp only [List.forIn_cons, Sem.run_bind, h i (by simp), Result.andThen_ok]
    exact ih fun j hj => h j (by simp [hj])
theorem keyOK_check {kt : TypeId} {k : AV} {kv : Value} (h : keyOK P kt k = true) (hk : VR E k kv) (em : Bool) (n : Nat) : (Instr.checkKey em (n + 2) kt kv).run P w = .ok () w := by
  unfold keyOK at h
  split at h
  · rename_i l hu
    obtain ⟨s, rfl, _⟩ := str_inv hk
    simp [Instr.checkKey, run_underlying hu]
  · rename_i m e cs hu
    split at h
    · rename_i ik hue
      split at h
      · rename_i hz
        simp only [Bool.and_eq_true, decide_eq_true_eq, List.all_eq_true] at h
        obtain ⟨hl, hall⟩ := h
        obtain ⟨vs, rfl, hv⟩ := agg_inv hk
        unfold Instr.checkKey
        simp only [Sem.run_bind, run_underlying hu, Result.andThen_ok]
        simp only [Std.Legacy.Range.forIn_eq_forIn_range', Std.Legacy.Range.size, Nat.sub_zero, Nat.add_one_sub_one, Nat.div_one]
        rw [forIn_ok (is := List.range' 0 m)]
        · rfl
        · intro i hi
          have hi' : i < cs.length := by simp at hi; omega
          have ha : aggT P e = some false := by simp [aggT, hue]
          have hp : partA P e cs (i * 1) = some cs[i] := by
            unfold partA; rw [ha]; simp only [nth_eq]; simp [hi']
          obtain ⟨v, p1, p2⟩ := run_part (P := P) (w := w) hp hv
          have hint := hall cs[i] (by simp)
          simp only [Sem.run_bind, run_sizeOf hz, Result.andThen_ok, p1]
          have : (Instr.checkKey em (n + 1) e v).run P w = .ok () w := by
            generalize cs[i] = c at hint p2
            cases c <;> simp at hint
            rw [int_inv p2]
            simp [Instr.checkKey, run_underlying hue]
          rw [this]; rfl
      · simp at h
    · simp at h
  · simp at h
def FR (E : Env) (r : Option (Nat × AEnt)) (r' : Option (Nat × Value)) : Prop :=
  match r, r' with
  | none, none => True
  | some (i, e), some (j, v) => i = j ∧ VR E e.val v
  | _, _ => False
theorem findAsking_ok {kt : TypeId} {k : AV} {kv : Value} (hk : VR E k kv) : ∀ {es : List AEnt} {es' : List MapEntry} {i : Nat} {r : Option (Nat × AEnt)}, findK P kt k es i = some r → ERs E es es' →
    ∃ r', (Instr.findAsking kt kv es' i).run P w = .ok r' w ∧ FR E r r' := by
  intro es
  induction es with
  | nil => intro es' i r h he; cases he; simp [findK] at h; subst h; exact ⟨none, rfl, trivial⟩
  | cons e es ih =>
    intro es' i r h he
    cases he with
    | cons _ e' _ es' he ht =>
    unfold Instr.findAsking
    simp only [findK] at h
    split at h
    · rename_i hq
      cases h
      refine ⟨some (i, e'.val), ?_, rfl, he.val⟩
      have : (Op.equal kt kv e'.key).run P w = .ok true w := eqA_ok hq hk he.key (by simp [Op.maxDepth])
      simp [this]
    · rename_i hq
      obtain ⟨r', h1, h2⟩ := ih h ht
      refine ⟨r', ?_, h2⟩
      have : (Op.equal kt kv e'.key).run P w = .ok false w := eqA_ok hq hk he.key (by simp [Op.maxDepth])
      simp [this, h1]
    · cases h
theorem findNow_ok {kt : TypeId} {l : List Nat} {kv : Value} (hu : P.underlying kt = some .string) (hk : VR E (.str l) kv) : ∀ {es : List AEnt} {es' : List MapEntry} {i : Nat} {r : Option (Nat × AEnt)},
    findK P kt (.str l) es i = some r → ERs E es es' → ∃ r', Instr.findNow .string kv es' i = some r' ∧ FR E r r' := by
  intro es
  induction es with
  | nil => intro es' i r h he; cases he; simp [findK] at h; subst h; exact ⟨none, rfl, trivial⟩
  | cons e es ih =>
    intro es' i r h he
    cases he with
    | cons _ e' _ es' he ht =>
    unfold Instr.findNow
    simp only [findK] at h
    obtain ⟨s, rfl, hl⟩ := str_inv hk
    have hsame : ∀ b, eqA P 200 kt (.str l) e.key = some b → Instr.sameNow .string (.string s) e'.key = some b := by
      intro b hb
      unfold eqA at hb
      simp only [hu] at hb
      generalize hek : e.key = ek at hb
      have hke := he.key
      rw [hek] at hke
      cases ek <;> simp at hb
      obtain ⟨t, ht', hl'⟩ := str_inv hke
      rw [ht']
      simp only [Instr.sameNow]
      subst hb
      congr 1
      rw [hl, hl']
      by_cases c : s = t
      · subst c
        have : (s == s) = true := (bytes_beq s s).2 rfl
        rw [this]; simp
      · have hne : s.data.toList.map (·.toNat) ≠ t.data.toList.map (·.toNat) := fun q => c (bytes_ext q)
        have : (s == t) = false := by
          cases hq : (s == t) with
          | false => rfl
          | true => exact absurd ((bytes_beq s t).1 hq) c
        rw [this]; simp only [hne, decide_false]
    split at h
    · rename_i hq
      cases h
      exact ⟨some (i, e'.val), by rw [hsame _ hq], rfl, he.val⟩
    · rename_i hq
      obtain ⟨r', h1, h2⟩ := ih h ht
      exact ⟨r', by rw [hsame _ hq]; exact h1, h2⟩
    · cases h
theorem findK_ok {kt : TypeId} {k : AV} {kv : Value} {es : List AEnt} {es' : List MapEntry} {r : Option (Nat × AEnt)} (hok : keyOK P kt k = true) (hk : VR E k kv) (h : findK P kt k es 0 = some r) (he : ERs E es es') :
    ∃ r', (Instr.findKey kt kv es').run P w = .ok r' w ∧ FR E r r' := by
  unfold keyOK at hok
  split at hok
  · rename_i l hu
    obtain ⟨r', h1, h2⟩ := findNow_ok hu hk h he
    exact ⟨r', run_findKey hu h1, h2⟩
  · rename_i m e cs hu
    obtain ⟨r', h1, h2⟩ := findAsking_ok (w := w) hk h he
    refine ⟨r', ?_, h2⟩
    rw [run_findKey_eq w (by simp [hu])]; exact h1
  · simp at hok
theorem WR.mapAt (hW : WR K w0 E s w) {r : Nat} {es : List AEnt} {c : Nat} {l : Loc} (h : mapAt s r = some (es, c)) (hE : E r = some l) :
    s.hp.get r = some (.map es c) ∧ l.o = 0 ∧ ∃ es', w.heap[l.B]? = some (.map es' c) ∧ ERs E es es'.toList := by
  unfold Ex.mapAt at h
  split at h
  · rename_i es0 c0 hb
    cases h
    obtain ⟨h0, es', h1, h2⟩ := hW.obj _ _ _ hb hE
    exact ⟨hb, h0, es', h1, h2⟩
  · cases h
theorem okTup_ok {ok b : Bool} {v : AV} {u : Value} (h : VR E v u) : VR E (okTup ok b v) (if ok then .tuple #[u, .bool b] else u) := by
  cases ok with
  | true => exact .tuple _ _ (.cons _ _ _ _ h (.cons _ _ _ _ (.bool b) .nil))
  | false => exact h
theorem run_lookup {t kt e : TypeId} {m : Option Nat} {es' : Array MapEntry} {kv : Value} {ok : Bool} {r' : Option (Nat × Value)} {u : Value} {b : Bool} (hu : P.underlying t = some (.map kt e))
    (hes : match m with | none => es' = #[] | some r => ∃ c, w.heap[r]? = some (.map es' c)) (hchk : ∀ em, (Instr.checkKey em 10000 kt kv).run P w = .ok () w)
    (hf : (Instr.findKey kt kv es'.toList).run P w = .ok r' w)
    (hr : match r' with | some (_, v) => u = v ∧ b = true | none => (zeroValue e).run P w = .ok u w ∧ b = false) :
    (Instr.lookup t (.map m) kv ok).run P w = .ok (if ok then .tuple #[u, .bool b] else u) w := by
  unfold Instr.lookup
  cases m with
  | none =>
    subst hes
    simp only [Sem.run_bind, run_underlying hu, Result.andThen_ok, Sem.run_pure, hchk, hf]
    cases r' with
    | none => obtain ⟨h1, rfl⟩ := hr; simp [h1]
    | some x => obtain ⟨i, v⟩ := x; obtain ⟨rfl, rfl⟩ := hr; simp
  | some r =>
    obtain ⟨c, hes⟩ := hes
    have hg : (getObj r).run P w = .ok (.map es' c) w := by simp [getObj, Sem.run, hes]
    simp only [Sem.run_bind, run_underlying hu, Result.andThen_ok, Sem.run_pure, hchk, hf, hg]
    cases r' with
    | none => obtain ⟨h1, rfl⟩ := hr; simp [h1]
    | some x => obtain ⟨i, v⟩ := x; obtain ⟨rfl, rfl⟩ := hr; simp
theorem lLookup_ok (hW : WR K w0 E s w) (hρ : OpR E G tm ρ) {t : TypeId} {m k : Operand} {ok : Bool} {r : AV} (h : lLookup P G tm s t m k ok = some r) :
    ∃ z, (Instr.lookup t (ρ m) (ρ k) ok).run P w = .ok z w ∧ VR E r z := by
  unfold lLookup at h
  split at h
  · rename_i kt e mr kk hu hm hk
    replace h := bif_some h; obtain ⟨hok, h⟩ := h
    split at h
    · rename_i es hes
      have hkv := hρ _ _ hk
      have hmv := hρ _ _ hm
      have hmap : ∃ (m' : Option Nat) (es' : Array MapEntry), ρ m = .map m' ∧ (match m' with | none => es' = #[] | some r => ∃ c, w.heap[r]? = some (.map es' c)) ∧ ERs E es es'.toList := by
        cases mr with
        | none => simp at hes; subst hes; exact ⟨none, #[], mapn_inv hmv, rfl, .nil⟩
        | some mr =>
          obtain ⟨l, hE, hv⟩ := map_inv hmv
          simp only at hes
          split at hes
          · rename_i x hx
            cases hes
            obtain ⟨es0, c⟩ := x
            obtain ⟨_, _, es', h1, h2⟩ := hW.mapAt hx hE
            exact ⟨some l.B, es', hv, ⟨c, h1⟩, h2⟩
          · cases hes
      obtain ⟨m', es', g0, g1, g2⟩ := hmap
      have hchk := fun em => keyOK_check (w := w) (E := E) hok hkv em 9998
      rw [g0]
      split at h
      · rename_i j x hf
        cases h
        obtain ⟨r', f1, f2⟩ := findK_ok (w := w) hok hkv hf g2
        cases r' with
        | none => exact f2.elim
        | some y =>
          obtain ⟨j', v⟩ := y
          exact ⟨_, run_lookup (ok := ok) hu g1 hchk f1 ⟨rfl, rfl⟩, okTup_ok f2.2⟩
      · rename_i hf
        obtain ⟨r', f1, f2⟩ := findK_ok (w := w) hok hkv hf g2
        cases r' with
        | some y => exact f2.elim
        | none =>
          split at h
          · rename_i z hz
            cases h
            obtain ⟨v, z1, z2, _⟩ := run_zeroValue hz
            exact ⟨_, run_lookup (ok := ok) hu g1 hchk f1 ⟨z1 w, rfl⟩, okTup_ok (z2 E)⟩
          · cases h
      · cases h
    · cases h
  · cases h
/-! ### Type assertions, parts of a tuple, built-in functions -/
theorem lAssert_ok (hρ : OpR E G tm ρ) {x : Operand} {xt t : TypeId} {ok : Bool} {r : AV} (h : lAssert P G tm x t ok = some r) :
    ∃ z, (Instr.typeAssert (ρ x) xt t ok).run P w = .ok z w ∧ VR E r z := by
  unfold lAssert at h
  split at h
  · cases h
  · rename_i d hnot hu
    split at h
    · rename_i u v hx
      obtain ⟨v', hv, hv'⟩ := iface_inv (hρ _ _ hx)
      rw [hv]
      unfold Instr.typeAssert
      cases hb : Nat.beq u t with
      | true =>
        rw [hb] at h
        simp only [cond_true] at h
        rw [beq_iff] at hb
        subst hb
        simp only [Option.some.injEq] at h; subst h
        refine ⟨_, ?_, okTup_ok hv'⟩
        rw [Sem.run_bind, run_underlying hu, Result.andThen_ok]
        cases d <;> first | exact absurd rfl (hnot _) | simp
      | false =>
        rw [hb] at h
        simp only [cond_false] at h
        have hne : u ≠ t := fun q => by rw [(beq_iff _ _).2 q] at hb; cases hb
        split at h
        · split at h
          · rename_i z hz
            cases h
            obtain ⟨zv, z1, z2, _⟩ := run_zeroValue hz
            refine ⟨_, ?_, okTup_ok (ok := true) (b := false) (z2 E)⟩
            rw [Sem.run_bind, run_underlying hu, Result.andThen_ok]
            cases d <;> first | exact absurd rfl (hnot _) | simp [hne, z1]
          · cases h
        · cases h
    · cases h
  · cases h
theorem lExtract_ok (hρ : OpR E G tm ρ) {t : Operand} {i : Nat} {r : AV} (h : lExtract G tm t i = some r) :
    ∃ z, (Instr.extract (ρ t) i).run P w = .ok z w ∧ VR E r z := by
  unfold lExtract at h
  split at h
  · rename_i vs hx
    obtain ⟨vs', hv, hv'⟩ := tuple_inv (hρ _ _ hx)
    rw [nth_eq] at h
    obtain ⟨y, h1, h2⟩ := hv'.get h
    refine ⟨y, ?_, h2⟩
    rw [hv]
    simp [Instr.extract, h1]
  · cases h
end
end Go.Ex
