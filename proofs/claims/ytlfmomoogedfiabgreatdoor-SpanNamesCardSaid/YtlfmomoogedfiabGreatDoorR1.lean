/- PROVED: trees keyed by numbers, lists; the relation of abstract values to the model's. Conditions: those in each theorem's own words (the abstract state stands for the world). By an AI agent. -/
import Derived.Test.YtlfmomoogedfiabGreatDoorEx
import Derived.Laws.Sem
import Derived.Laws.World
namespace Go.Ex

/-! ### Trees -/
namespace Tr
variable {α : Type}
theorem get_lf (n : Nat) : (Tr.lf : Tr α).get n = none := rfl
theorem get_nd (l : Tr α) (v : Option α) (r : Tr α) (n : Nat) :
    (Tr.nd l v r).get n = match n with | 0 => v | m + 1 => if m % 2 = 0 then l.get (m / 2) else r.get (m / 2) := by
  cases n with
  | zero => rfl
  | succ m =>
    show Bool.rec (motive := fun _ => Option α) (r.get (Nat.div m 2)) (l.get (Nat.div m 2)) (Nat.beq (Nat.mod m 2) 0) = _
    have e1 : Nat.div m 2 = m / 2 := rfl
    have e2 : Nat.mod m 2 = m % 2 := rfl
    rw [e1, e2]
    by_cases h : m % 2 = 0
    · simp [h]
    · have : Nat.beq (m % 2) 0 = false := by cases hb : Nat.beq (m % 2) 0 with | false => rfl | true => exact absurd (Nat.eq_of_beq_eq_true hb) h
      simp [h, this]
theorem set_lf (n : Nat) (x : α) : (Tr.lf : Tr α).set n x = one (n + 1) n x := rfl
theorem set_nd (l : Tr α) (v : Option α) (r : Tr α) (n : Nat) (x : α) :
    (Tr.nd l v r).set n x = match n with | 0 => .nd l (some x) r | m + 1 => if m % 2 = 0 then .nd (l.set (m / 2) x) v r else .nd l v (r.set (m / 2) x) := by
  cases n with
  | zero => rfl
  | succ m =>
    show Bool.rec (motive := fun _ => Tr α) (.nd l v (r.set (Nat.div m 2) x)) (.nd (l.set (Nat.div m 2) x) v r) (Nat.beq (Nat.mod m 2) 0) = _
    have e1 : Nat.div m 2 = m / 2 := rfl
    have e2 : Nat.mod m 2 = m % 2 := rfl
    rw [e1, e2]
    by_cases h : m % 2 = 0
    · simp [h]
    · have : Nat.beq (m % 2) 0 = false := by cases hb : Nat.beq (m % 2) 0 with | false => rfl | true => exact absurd (Nat.eq_of_beq_eq_true hb) h
      simp [h, this]
theorem one_succ (f n : Nat) (x : α) :
    one (f + 1) n x = match n with | 0 => .nd .lf (some x) .lf | m + 1 => if m % 2 = 0 then .nd (one f (m / 2) x) none .lf else .nd .lf none (one f (m / 2) x) := by
  cases n with
  | zero => rfl
  | succ m =>
    show (bif Nat.beq (Nat.mod m 2) 0 then _ else _) = _
    have e2 : Nat.mod m 2 = m % 2 := rfl
    have e1 : Nat.div m 2 = m / 2 := rfl
    rw [e2, e1]
    by_cases h : m % 2 = 0
    · simp [h]
    · have : Nat.beq (m % 2) 0 = false := by cases hb : Nat.beq (m % 2) 0 with | false => rfl | true => exact absurd (Nat.eq_of_beq_eq_true hb) h
      simp [h, this]
theorem get_one (f : Nat) : ∀ (n m : Nat) (x : α), n < f → (one f n x).get m = if m = n then some x else none := by
  induction f with
  | zero => intro n m x h; omega
  | succ f ih =>
    intro n m x h
    rw [one_succ]
    cases n with
    | zero => cases m <;> simp [get_nd, get_lf]
    | succ n =>
      by_cases hn : n % 2 = 0
      · simp only [hn, if_true]
        rw [get_nd]
        cases m with
        | zero => simp
        | succ m =>
          by_cases hm : m % 2 = 0
          · simp only [hm, if_true]
            rw [ih _ _ _ (by omega)]
            by_cases e : m = n
            · simp [e]
            · rw [if_neg (by omega), if_neg (by omega)]
          · simp only [hm, if_false, get_lf]
            rw [if_neg (by intro e; apply hm; omega)]
      · simp only [hn, if_false]
        rw [get_nd]
        cases m with
        | zero => simp
        | succ m =>
          by_cases hm : m % 2 = 0
          · simp only [hm, if_true, get_lf]
            rw [if_neg (by intro e; apply hn; omega)]
          · simp only [hm, if_false]
            rw [ih _ _ _ (by omega)]
            by_cases e : m = n
            · simp [e]
            · rw [if_neg (by omega), if_neg (by omega)]
theorem get_set (t : Tr α) : ∀ (n m : Nat) (x : α), (t.set n x).get m = if m = n then some x else t.get m := by
  induction t with
  | lf => intro n m x; rw [set_lf, get_one _ _ _ _ (by omega), get_lf]
  | nd l v r ihl ihr =>
    intro n m x
    rw [set_nd]
    cases n with
    | zero => cases m <;> simp [get_nd]
    | succ n =>
      by_cases hn : n % 2 = 0
      · simp only [hn, if_true]
        rw [get_nd, get_nd]
        cases m with
        | zero => simp
        | succ m =>
          by_cases hm : m % 2 = 0
          · simp only [hm, if_true]
            rw [ihl]
            by_cases e : m = n
            · simp [e]
            · rw [if_neg (by omega), if_neg (by omega)]
          · simp only [hm, if_false]
            rw [if_neg (by intro e; apply hm; omega)]
      · simp only [hn, if_false]
        rw [get_nd, get_nd]
        cases m with
        | zero => simp
        | succ m =>
          by_cases hm : m % 2 = 0
          · simp only [hm, if_true]
            rw [if_neg (by intro e; apply hn; omega)]
          · simp only [hm, if_false]
            rw [ihr]
            by_cases e : m = n
            · simp [e]
            · rw [if_neg (by omega), if_neg (by omega)]
theorem get_room (d n : Nat) : (Tr.room d : Tr α).get n = none := by
  induction d generalizing n with
  | zero => rfl
  | succ d ih =>
    show (Tr.nd (room d) none (room d)).get n = none
    rw [get_nd]
    cases n with
    | zero => rfl
    | succ m => dsimp only; split <;> exact ih _
end Tr

/-! ### Lists -/
section
variable {α : Type}
theorem nth_eq (l : List α) (n : Nat) : nth l n = l[n]? := by
  induction l generalizing n with
  | nil => rfl
  | cons x l ih =>
    cases n with
    | zero => rfl
    | succ n => exact ih n
theorem takeN_some {n : Nat} {l r : List α} (h : takeN n l = some r) : n ≤ l.length ∧ r = l.take n := by
  induction n generalizing l r with
  | zero => simp [takeN] at h; simp [← h]
  | succ n ih =>
    cases l with
    | nil => simp [takeN] at h
    | cons x l =>
      simp only [takeN] at h
      cases h1 : takeN n l with
      | none => simp [h1] at h
      | some r' =>
        simp [h1] at h
        obtain ⟨h2, h3⟩ := ih h1
        exact ⟨by simp; exact h2, by rw [← h, h3]; rfl⟩
theorem dropN_eq (n : Nat) (l : List α) : dropN n l = l.drop n := by
  induction n generalizing l with
  | zero => rfl
  | succ n ih =>
    cases l with
    | nil => rfl
    | cons x l => exact ih l
theorem over_some {l vs r : List α} (h : over l vs = some r) : vs.length ≤ l.length ∧ r = vs ++ l.drop vs.length := by
  induction vs generalizing l r with
  | nil => simp [over] at h; simp [h]
  | cons v vs ih =>
    cases l with
    | nil => simp [over] at h
    | cons x l =>
      simp only [over] at h
      cases h1 : over l vs with
      | none => simp [h1] at h
      | some r' =>
        simp [h1] at h
        obtain ⟨h2, h3⟩ := ih h1
        exact ⟨by simp; exact h2, by rw [← h, h3]; simp⟩
theorem setN_nil (n : Nat) (vs : List α) : setN ([] : List α) n vs = match vs with | [] => some [] | _ :: _ => none := by cases vs <;> rfl
theorem setN_zero (x : α) (l vs : List α) : setN (x :: l) 0 vs = over (x :: l) vs := rfl
theorem setN_succ (x : α) (l : List α) (n : Nat) (vs : List α) : setN (x :: l) (n + 1) vs = match setN l n vs with | some r => some (x :: r) | none => none := by
  show Option.rec (motive := fun _ => Option (List α)) none (fun r => some (x :: r)) (setN l n vs) = _
  cases setN l n vs <;> rfl
/-- what is written lies within; the rest stays -/
theorem setN_some {l : List α} {n : Nat} {vs r : List α} (h : setN l n vs = some r) :
    r.length = l.length ∧ (vs ≠ [] → n + vs.length ≤ l.length) ∧ ∀ j, r[j]? = if n ≤ j ∧ j < n + vs.length then vs[j - n]? else l[j]? := by
  induction l generalizing n r with
  | nil =>
    rw [setN_nil] at h
    cases vs with
    | nil => simp at h; subst h; refine ⟨rfl, by simp, fun j => ?_⟩; simp
    | cons v vs => simp at h
  | cons x l ih =>
    cases n with
    | zero =>
      rw [setN_zero] at h
      obtain ⟨h1, h2⟩ := over_some h
      refine ⟨?_, fun _ => by omega, fun j => ?_⟩
      · rw [h2]; simp; simp at h1; omega
      · rw [h2]
        by_cases hj : j < vs.length
        · rw [List.getElem?_append_left hj, if_pos (by omega)]; rfl
        · rw [List.getElem?_append_right (by omega), if_neg (by omega), List.getElem?_drop]; congr 1; omega
    | succ n =>
      rw [setN_succ] at h
      cases h1 : setN l n vs with
      | none => simp [h1] at h
      | some r' =>
        simp [h1] at h
        obtain ⟨h2, h3, h4⟩ := ih h1
        subst h
        refine ⟨by simp [h2], fun hv => by have := h3 hv; simp; omega, fun j => ?_⟩
        cases j with
        | zero => simp
        | succ j =>
          simp only [List.getElem?_cons_succ]
          rw [h4 j]
          by_cases c : n ≤ j ∧ j < n + vs.length
          · rw [if_pos c, if_pos (by omega)]; congr 1; omega
          · rw [if_neg c, if_neg (by omega)]
end

/-! ### Values against values -/
structure Loc where
  B : Nat
  o : Nat
  tot : Nat
abbrev Env := Nat → Option Loc

/-- the slice s[k:k] of one of unknown capacity -/
def emptyAt (l : Loc) (o k z : Nat) : Value :=
  .slice (some (if (l.tot - l.o - o) / z = k then ⟨l.B, l.o + o, none⟩ else ⟨l.B, l.o + (o + k * z), none⟩)) 0 ((l.tot - l.o - o) / z - k)

mutual
inductive VR (E : Env) : AV → Value → Prop where
  | bool (b : Bool) : VR E (.bool b) (.bool b)
  | int (k : IntKind) (n : Int) : VR E (.int k n) (.int k n)
  | str (s : ByteArray) (l : List Nat) (h : l = s.data.toList.map (·.toNat)) : VR E (.str l) (.string s)
  | nilp : VR E (.ptr none) (.pointer none)
  | ptr (b o : Nat) (l : Loc) (h : E b = some l) : VR E (.ptr (some (b, o))) (.pointer (some ⟨l.B, l.o + o, none⟩))
  | nils : VR E (.sl none 0 0) (.slice none 0 0)
  | sl (b o n c : Nat) (l : Loc) (h : E b = some l) : VR E (.sl (some (b, o)) n c) (.slice (some ⟨l.B, l.o + o, none⟩) n c)
  | slB (b o n z : Nat) (l : Loc) (h : E b = some l) (hz : 0 < z) : VR E (.slB b o n z) (.slice (some ⟨l.B, l.o + o, none⟩) n ((l.tot - l.o - o) / z))
  | slE (b o k z : Nat) (l : Loc) (h : E b = some l) (hz : 0 < z) : VR E (.slE b o k z) (emptyAt l o k z)
  | nilm : VR E (.map none) (.map none)
  | map (b : Nat) (l : Loc) (h : E b = some l) : VR E (.map (some b)) (.map (some l.B))
  | fn (f : Fn) (a c : List AV) (a' c' : List Value) (h1 : VRs E a a') (h2 : VRs E c c') : VR E (.fn f a c) (.func f ⟨a'⟩ ⟨c'⟩)
  | nilf : VR E .nilFn .nilFunc
  | iface (t : TypeId) (v : AV) (v' : Value) (h : VR E v v') : VR E (.iface t v) (.iface t v')
  | nili : VR E .nilIface .nilIface
  | agg (a : List AV) (a' : List Value) (h : VRs E a a') : VR E (.agg a) (.agg ⟨a'⟩)
  | tuple (a : List AV) (a' : List Value) (h : VRs E a a') : VR E (.tuple a) (.tuple ⟨a'⟩)
inductive VRs (E : Env) : List AV → List Value → Prop where
  | nil : VRs E [] []
  | cons (a : AV) (v : Value) (as : List AV) (vs : List Value) (h : VR E a v) (t : VRs E as vs) : VRs E (a :: as) (v :: vs)
end

def Env.le (E E' : Env) : Prop := ∀ b l, E b = some l → E' b = some l
theorem Env.le_refl (E : Env) : Env.le E E := fun _ _ h => h
theorem Env.le_trans {E F G : Env} (h : Env.le E F) (k : Env.le F G) : Env.le E G := fun b l e => k b l (h b l e)

theorem VR.mono {E E' : Env} (hE : Env.le E E') {a : AV} {v : Value} (h : VR E a v) : VR E' a v := by
  refine VR.rec (motive_1 := fun a v _ => VR E' a v) (motive_2 := fun a v _ => VRs E' a v) ?_ ?_ ?_ ?_ ?_ ?_ ?_ ?_ ?_ ?_ ?_ ?_ ?_ ?_ ?_ ?_ ?_ ?_ ?_ h
  · exact fun b => .bool b
  · exact fun k n => .int k n
  · exact fun s l h => .str s l h
  · exact .nilp
  · exact fun b o l h => .ptr b o l (hE _ _ h)
  · exact .nils
  · exact fun b o n c l h => .sl b o n c l (hE _ _ h)
  · exact fun b o n z l h hz => .slB b o n z l (hE _ _ h) hz
  · exact fun b o k z l h hz => .slE b o k z l (hE _ _ h) hz
  · exact .nilm
  · exact fun b l h => .map b l (hE _ _ h)
  · exact fun f a c a' c' _ _ h1 h2 => .fn f a c a' c' h1 h2
  · exact .nilf
  · exact fun t v v' _ h => .iface t v v' h
  · exact .nili
  · exact fun a a' _ h => .agg a a' h
  · exact fun a a' _ h => .tuple a a' h
  · exact .nil
  · exact fun a v as vs _ _ h t => .cons a v as vs h t
theorem VRs.mono {E E' : Env} (hE : Env.le E E') {a : List AV} {v : List Value} (h : VRs E a v) : VRs E' a v := by
  induction a generalizing v with
  | nil => cases h; exact .nil
  | cons x a ih => cases h with | cons _ _ _ _ h t => exact .cons _ _ _ _ (h.mono hE) (ih t)

theorem VRs.length {E : Env} {a : List AV} {v : List Value} (h : VRs E a v) : a.length = v.length := by
  induction a generalizing v with
  | nil => cases h; rfl
  | cons x a ih => cases h with | cons _ _ _ _ h t => simp [ih t]
theorem VRs.get {E : Env} {a : List AV} {v : List Value} (h : VRs E a v) {j : Nat} {x : AV} (hx : a[j]? = some x) : ∃ y, v[j]? = some y ∧ VR E x y := by
  induction a generalizing v j with
  | nil => simp at hx
  | cons b a ih =>
    cases h with
    | cons _ u _ vs h t =>
      cases j with
      | zero => simp at hx; subst hx; exact ⟨u, rfl, h⟩
      | succ j => exact ih t hx
theorem VRs.take {E : Env} {a : List AV} {v : List Value} (h : VRs E a v) (n : Nat) : VRs E (a.take n) (v.take n) := by
  induction a generalizing v n with
  | nil => cases h; simp; exact .nil
  | cons x a ih =>
    cases h with
    | cons _ u _ vs h t =>
      cases n with
      | zero => exact .nil
      | succ n => exact .cons _ _ _ _ h (ih t n)
theorem VRs.drop {E : Env} {a : List AV} {v : List Value} (h : VRs E a v) (n : Nat) : VRs E (a.drop n) (v.drop n) := by
  induction a generalizing v n with
  | nil => cases h; simp; exact .nil
  | cons x a ih =>
    cases h with
    | cons _ u _ vs h t =>
      cases n with
      | zero => exact .cons _ _ _ _ h t
      | succ n => exact ih t n
theorem VRs.append {E : Env} {a b : List AV} {v w : List Value} (h : VRs E a v) (k : VRs E b w) : VRs E (a ++ b) (v ++ w) := by
  induction a generalizing v with
  | nil => cases h; exact k
  | cons x a ih => cases h with | cons _ _ _ _ h t => exact .cons _ _ _ _ h (ih t)
theorem VRs.of_get {E : Env} {a : List AV} {v : List Value} (hl : a.length = v.length) (h : ∀ (j : Nat) (x : AV) (y : Value), a[j]? = some x → v[j]? = some y → VR E x y) : VRs E a v := by
  induction a generalizing v with
  | nil => cases v with | nil => exact .nil | cons => simp at hl
  | cons x a ih =>
    cases v with
    | nil => simp at hl
    | cons y v => exact .cons _ _ _ _ (h 0 x y rfl rfl) (ih (by simpa using hl) fun j x y h1 h2 => h (j + 1) x y h1 h2)

/-! ### One value for one value -/
theorem toNat_inj {a b : UInt8} (h : a.toNat = b.toNat) : a = b := by
  cases a; cases b; simp only [UInt8.toNat, BitVec.toNat] at h; congr; exact BitVec.eq_of_toNat_eq h
theorem map_toNat_inj {a b : List UInt8} (h : a.map (·.toNat) = b.map (·.toNat)) : a = b := by
  induction a generalizing b with
  | nil => cases b with | nil => rfl | cons => simp at h
  | cons x a ih => cases b with
    | nil => simp at h
    | cons y b => simp only [List.map_cons, List.cons.injEq] at h; rw [toNat_inj h.1, ih h.2]
theorem bytes_ext {s t : ByteArray} (h : s.data.toList.map (·.toNat) = t.data.toList.map (·.toNat)) : s = t := by
  have := map_toNat_inj h
  cases s; cases t; simp at this; simp [this]

theorem VR.fun {E : Env} {a : AV} {v : Value} (h : VR E a v) : ∀ {v' : Value}, VR E a v' → v = v' := by
  refine VR.rec (motive_1 := fun a v _ => ∀ {v'}, VR E a v' → v = v') (motive_2 := fun a v _ => ∀ {v'}, VRs E a v' → v = v') ?_ ?_ ?_ ?_ ?_ ?_ ?_ ?_ ?_ ?_ ?_ ?_ ?_ ?_ ?_ ?_ ?_ ?_ ?_ h
  · intro b v' k; cases k; rfl
  · intro b n v' k; cases k; rfl
  · intro s l hl v' k
    cases k with
    | str t _ hl' => rw [bytes_ext (hl.symm.trans hl')]
  · intro v' k; cases k; rfl
  · intro b o l h v' k; cases k with | ptr _ _ l' h' => rw [h] at h'; cases h'; rfl
  · intro v' k; cases k; rfl
  · intro b o n c l h v' k; cases k with | sl _ _ _ _ l' h' => rw [h] at h'; cases h'; rfl
  · intro b o n z l h hz v' k; cases k with | slB _ _ _ _ l' h' => rw [h] at h'; cases h'; rfl
  · intro b o n z l h hz v' k
    generalize hu : emptyAt l o n z = u
    cases k with | slE _ _ _ _ l' h' => rw [h] at h'; cases h'; rw [hu]
  · intro v' k; cases k; rfl
  · intro b l h v' k; cases k with | map _ l' h' => rw [h] at h'; cases h'; rfl
  · intro f a c a' c' _ _ h1 h2 v' k; cases k with | fn _ _ _ _ _ k1 k2 => rw [h1 k1, h2 k2]
  · intro v' k; cases k; rfl
  · intro t v v' _ h v'' k; cases k with | iface _ _ _ k => rw [h k]
  · intro v' k; cases k; rfl
  · intro a a' _ h v' k; cases k with | agg _ _ k => rw [h k]
  · intro a a' _ h v' k; cases k with | tuple _ _ k => rw [h k]
  · intro v' k; cases k; rfl
  · intro a v as vs _ _ h t v' k; cases k with | cons _ _ _ _ k1 k2 => rw [h k1, t k2]
theorem VRs.fun {E : Env} {a : List AV} {v v' : List Value} (h : VRs E a v) (k : VRs E a v') : v = v' := by
  induction a generalizing v v' with
  | nil => cases h; cases k; rfl
  | cons x a ih => cases h with | cons _ _ _ _ h t => cases k with | cons _ _ _ _ k u => rw [h.fun k, ih t u]

/-! ### Equality -/
mutual
theorem beq_eq : ∀ (a b : AV), AV.beq a b = true → a = b
  | .bool a, b, h => by cases b <;> simp [AV.beq] at h; subst h; rfl
  | .int k a, b, h => by cases b <;> simp [AV.beq] at h; obtain ⟨rfl, rfl⟩ := h; rfl
  | .str a, b, h => by cases b <;> simp [AV.beq] at h; subst h; rfl
  | .ptr a, b, h => by cases b <;> simp [AV.beq] at h; subst h; rfl
  | .sl a l c, b, h => by cases b <;> simp [AV.beq] at h; obtain ⟨⟨rfl, rfl⟩, rfl⟩ := h; rfl
  | .slB a l c d, b, h => by cases b <;> simp [AV.beq] at h; obtain ⟨⟨⟨rfl, rfl⟩, rfl⟩, rfl⟩ := h; rfl
  | .slE a l c d, b, h => by cases b <;> simp [AV.beq] at h; obtain ⟨⟨⟨rfl, rfl⟩, rfl⟩, rfl⟩ := h; rfl
  | .map a, b, h => by cases b <;> simp [AV.beq] at h; subst h; rfl
  | .fn f a c, b, h => by
    cases b <;> simp [AV.beq] at h
    obtain ⟨⟨rfl, h1⟩, h2⟩ := h
    rw [beqs_eq _ _ h1, beqs_eq _ _ h2]
  | .nilFn, b, h => by cases b <;> simp [AV.beq] at h; rfl
  | .iface t v, b, h => by
    cases b <;> simp [AV.beq] at h
    obtain ⟨rfl, h1⟩ := h
    rw [beq_eq _ _ h1]
  | .nilIface, b, h => by cases b <;> simp [AV.beq] at h; rfl
  | .agg a, b, h => by cases b <;> simp [AV.beq] at h; rw [beqs_eq _ _ h]
  | .tuple a, b, h => by cases b <;> simp [AV.beq] at h; rw [beqs_eq _ _ h]
theorem beqs_eq : ∀ (a b : List AV), AV.beqs a b = true → a = b
  | [], b, h => by cases b <;> simp [AV.beqs] at h; rfl
  | x :: a, b, h => by
    cases b with
    | nil => simp [AV.beqs] at h
    | cons y b =>
      simp only [AV.beqs, Bool.and_eq_true] at h
      rw [beq_eq _ _ h.1, beqs_eq _ _ h.2]
end
end Go.Ex
