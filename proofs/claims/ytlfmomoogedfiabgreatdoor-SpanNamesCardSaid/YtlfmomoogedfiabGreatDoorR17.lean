/- PROVED: functions without a body: race marks, atomics, bytealg.Compare. Conditions: those in each theorem's own words (the abstract state stands for the world). By an AI agent. -/
import Derived.Test.YtlfmomoogedfiabGreatDoorR16
import Derived.Conc.AtomicLaws2
namespace Go.Ex
open Go.MapKept
section
variable {K : Nat → Prop} {w0 : World} {E : Env} {s : St} {w : World} {P : Program} {G : Nat} {tm : Tr AV} {ρ : Operand → Value} {ext : FuncId → Option Ext}

/-! ### Functions without a body -/
theorem loadBytes_ok {B : Nat} : ∀ (n o : Nat) (acc : ByteArray) (l : List Nat), l.length = n →
    (∀ j x, l[j]? = some x → ∃ i, w.cell? ⟨B, o + j, none⟩ = some (.int .u8 i) ∧ i.toNat % 256 = x) →
    (Extern.Bytes.loadBytes ⟨B, o, none⟩ n acc).run P w = .ok ⟨(acc.data.toList ++ l.map fun x => UInt8.ofNat x).toArray⟩ w := by
  intro n
  induction n with
  | zero =>
    intro o acc l hl _
    have : l = [] := List.eq_nil_of_length_eq_zero hl
    subst this
    simp [Extern.Bytes.loadBytes]
  | succ n ih =>
    intro o acc l hl hc
    cases l with
    | nil => simp at hl
    | cons x l =>
      obtain ⟨i, h1, h2⟩ := hc 0 x rfl
      have h1' : w.cell? ⟨B, o, none⟩ = some (.int .u8 i) := h1
      unfold Extern.Bytes.loadBytes
      rw [Sem.run_bind, run_load_cell h1', Result.andThen_ok]
      simp only [add_none]
      rw [ih (o + 1) _ l (by simpa using hl) (fun j y hy => by
        obtain ⟨i', h3, h4⟩ := hc (j + 1) y (by simpa using hy)
        exact ⟨i', by rw [show o + 1 + j = o + (j + 1) by omega]; exact h3, h4⟩)]
      congr 1
      have hx : i.toNat.toUInt8 = UInt8.ofNat x := by
        apply toNat_inj
        rw [← h2]; simp
      rw [hx]
      simp [ByteArray.push]
theorem WR.loadN_cell (hW : WR K w0 E s w) {b o n : Nat} {xs : List AV} {l : Loc} (h : Ex.loadN s b o n = some xs) (hE : E b = some l) :
    ∀ j x, xs[j]? = some x → ∃ v, w.cell? ⟨l.B, l.o + o + j, none⟩ = some v ∧ VR E x v := by
  intro j x hx
  unfold Ex.loadN at h
  split at h
  · rename_i c hc
    obtain ⟨C, el, fz, h1, h2⟩ := hW.cells hc hE
    obtain ⟨h3, h4⟩ := takeN_some h
    rw [dropN_eq] at h3 h4
    rw [h4, List.getElem?_take] at hx
    split at hx
    · rw [List.getElem?_drop] at hx
      obtain ⟨v, h5, h6⟩ := h2.cell _ _ hx
      exact ⟨v, by rw [cell?_of h1, ← h5]; congr 1; omega, h6⟩
    · cases hx
  · cases h
theorem toBytes_get : ∀ {cs : List AV} {l : List Nat}, toBytes cs = some l → cs.length = l.length ∧ ∀ (j x : Nat), l[j]? = some x → ∃ i : Int, cs[j]? = some (AV.int .u8 i) ∧ i.toNat % 256 = x := by
  intro cs
  induction cs with
  | nil => intro l h; simp [toBytes] at h; subst h; exact ⟨rfl, fun j x hx => by simp at hx⟩
  | cons c cs ih =>
    intro l h
    simp only [toBytes] at h
    split at h
    · rename_i n hn
      split at h
      · rename_i l' hl
        cases h
        obtain ⟨h1, h2⟩ := ih hl
        refine ⟨by simp [h1], fun j x hx => ?_⟩
        cases j with
        | zero =>
          simp at hx; subst hx
          unfold toByte at hn
          split at hn
          · rename_i i; cases hn; exact ⟨i, rfl, rfl⟩
          · cases hn
        | succ j => exact h2 j x (by simpa using hx)
      · cases h
    · cases h
/-- the bytes that a slice's first cells hold -/
theorem bytesOf_ok (hW : WR K w0 E s w) {x : AV} {v : Value} {n : Nat} {cs : List AV} {l : List Nat} (hn : lenS x = some n) (hf : firstA s 1 n x = some cs) (hb : toBytes cs = some l) (hx : VR E x v) :
    ∃ t : ByteArray, (Extern.Bytes.bytesOf v).run P w = .ok t w ∧ t.data.toList.map (·.toNat) = l := by
  obtain ⟨b1, b2⟩ := toBytes_get hb
  have hlt : ∀ x ∈ l, x < 256 := by
    intro x hx
    obtain ⟨j, hj⟩ := List.getElem?_of_mem hx
    obtain ⟨i, _, rfl⟩ := b2 j x hj
    omega
  have hback : l.map (fun x => (UInt8.ofNat x).toNat) = l := by
    conv => rhs; rw [← List.map_id l]
    apply List.map_congr_left
    intro x hx
    simp [Nat.mod_eq_of_lt (hlt x hx)]
  have key : ∀ (b o : Nat) (k : Loc) (cap : Nat), E b = some k → loadN s b o (n * 1) = some cs → ∃ t : ByteArray, (Extern.Bytes.bytesOf (.slice (some ⟨k.B, k.o + o, none⟩) n cap)).run P w = .ok t w ∧ t.data.toList.map (·.toNat) = l := by
    intro b o k cap hE hl
    have hlen : l.length = n := by
      obtain ⟨vs, _, q1, q2⟩ := hW.loadN (P := P) hl hE
      rw [← b1, q1.length, q2, Nat.mul_one]
    refine ⟨_, loadBytes_ok n (k.o + o) .empty l hlen (fun j x hx => ?_), ?_⟩
    · obtain ⟨i, h1, h2⟩ := b2 j x hx
      obtain ⟨v, h3, h4⟩ := hW.loadN_cell hl hE j _ h1
      rw [int_inv h4] at h3
      exact ⟨i, h3, h2⟩
    · simpa [Function.comp_def] using hback
  cases x with
  | sl a m c =>
    cases a with
    | none =>
      obtain ⟨rfl, _, rfl⟩ := sln_inv hx
      simp only [firstA, Option.some.injEq] at hf
      subst hf
      simp [toBytes] at hb
      subst hb
      exact ⟨.empty, by simp [Extern.Bytes.bytesOf], rfl⟩
    | some a =>
      obtain ⟨b, o⟩ := a
      obtain ⟨k, hE, rfl⟩ := sl_inv hx
      simp only [lenS, Option.some.injEq] at hn; subst hn
      exact key b o k c hE hf
  | slB b o m z =>
    obtain ⟨k, hE, _, rfl⟩ := slB_inv hx
    simp only [lenS, Option.some.injEq] at hn; subst hn
    exact key b o k _ hE hf
  | slE b o m z =>
    obtain ⟨k, hE, _, rfl⟩ := slE_inv hx
    simp only [lenS, Option.some.injEq] at hn; subst hn
    simp [firstA] at hf
    subst hf
    simp [toBytes] at hb
    subst hb
    exact ⟨.empty, by simp [Extern.Bytes.bytesOf, emptyAt, Extern.Bytes.loadBytes], rfl⟩
  | _ => simp [lenS] at hn
theorem cmpB_eq : ∀ (a b : List UInt8), cmpB (a.map (·.toNat)) (b.map (·.toNat)) = Lib.compareBytes a b
  | [], [] => rfl
  | [], _ :: _ => rfl
  | _ :: _, [] => rfl
  | x :: a, y :: b => by
    simp only [List.map_cons, cmpB, Lib.compareBytes, ltF_eq]
    rw [cmpB_eq a b]
    have d1 : ∀ x y : UInt8, decide (Int.ofNat x.toNat < Int.ofNat y.toNat) = decide (x < y) := by
      intro x y
      by_cases c : x < y
      · have : x.toNat < y.toNat := c
        rw [decide_eq_true c]
        exact decide_eq_true (Int.ofNat_lt.2 this)
      · have : ¬ x.toNat < y.toNat := c
        rw [decide_eq_false c]
        exact decide_eq_false (fun q => this (Int.ofNat_lt.1 q))
    rw [d1, d1]
    by_cases c1 : x < y
    · simp only [c1, decide_true, if_true]
    · by_cases c2 : y < x
      · simp only [c1, c2, decide_true, decide_false, if_true, if_false]
      · simp only [c1, c2, decide_false, if_false]
theorem WR.unfz (hW : WR K w0 E s w) {b o : Nat} {x : AV} {l : Loc} (h : load1 s b o = some x) (hE : E b = some l) : w.frozen? ⟨l.B, l.o + o, none⟩ = false := by
  unfold load1 at h
  split at h
  · rename_i c hc
    obtain ⟨C, el, fz, h1, h2⟩ := hW.cells hc hE
    rw [nth_eq] at h
    have := (List.getElem?_eq_some_iff.1 h).1
    have := h2.fits
    exact unfrozen h1 h2.marks (by omega)
  · cases h
theorem WR.shp (hW : WR K w0 E s w) {b o : Nat} {x : AV} {l : Loc} (h : load1 s b o = some x) (hE : E b = some l) : ∃ y, w.shape? l.B = some y := by
  unfold load1 at h
  split at h
  · rename_i c hc
    obtain ⟨C, el, fz, h1, h2⟩ := hW.cells hc hE
    exact ⟨(el, C.size), by simp only [World.shape?, h1]⟩
  · cases h
theorem run_store_any {a : Addr} {c v : Value} {m : Mode} (hc : w.cell? a = some c) (hf : w.frozen? a = false) (hv : v.oneCell' = true) : (store a v m).run P w = .ok () (w.setCell a v) := by
  rw [run_store P w _ v m hv, hc, hf]; rfl
theorem storeCells_one {a : Addr} {c : Value} {k : IntKind} {n : Int} (hc : w.cell? a = some c) (hf : w.frozen? a = false) :
    (storeCells a [.int k n]).run P w = .ok () (w.setCell a (.int k n)) := by
  unfold storeCells
  have : a.add 0 = a := by simp [Addr.add]
  rw [Sem.run_bind, this, run_store_any hc hf rfl, Result.andThen_ok]
  rfl
theorem run_casI32 {a : Addr} {cur old nw : Int} (hc : w.cell? a = some (.int .i32 cur)) (hf : w.frozen? a = false) :
    (Extern.Atomic.casT (.int .i32) ⟨[.pointer (some a), .int .i32 old, .int .i32 nw]⟩).run P w = if (cur == old) = true then .ok (.bool true) (w.setCell a (.int .i32 nw)) else .ok (.bool false) w := by
  rw [Conc.casT_eq]
  by_cases he : cur = old
  · subst he; rw [Conc.run_cas_hit_entry hc hf, if_pos (by simp)]
  · rw [Conc.run_cas_miss_entry hc hf he, if_neg (by simpa using he)]
theorem extA_ok (hW : WR K w0 E s w) {e : Ext} {g : Array Value → Sem Value} {args : List AV} {vs : List Value} {r : HR} (hg : ExtSem e g) (h : extA e args s = some r) (hv : VRs E args vs) :
    ∃ v s', r = .val v s' ∧ NV K w0 P E s w (g ⟨vs⟩) v s' := by
  unfold extA at h
  cases e with
  | nop =>
    obtain ⟨m, rfl⟩ := hg
    cases h
    exact ⟨_, _, rfl, E, .tuple #[], w, by simp [Extern.Race.none_], Grow.refl _ E, .tuple _ _ .nil, hW, Fwd.refl _⟩
  | mark =>
    obtain ⟨m, rfl⟩ := hg
    simp only at h
    split at h
    · rename_i a rest
      cases h
      cases hv with
      | cons _ v _ vs hv ht =>
        obtain ⟨l, _, rfl⟩ := ptr_inv (b := a.1) (o := a.2) hv
        exact ⟨_, _, rfl, E, .tuple #[], w, by simp [Extern.Race.marked, Extern.Race.at_, Extern.Race.none_], Grow.refl _ E, .tuple _ _ .nil, hW, Fwd.refl _⟩
    · cases h
  | cas32 =>
    subst hg
    simp only at h
    split at h
    · rename_i b o old nw
      cases hv with
      | cons _ v1 _ vs h1 ht =>
      cases ht with
      | cons _ v2 _ vs h2 ht =>
      cases ht with
      | cons _ v3 _ vs h3 ht =>
      cases ht
      obtain ⟨l, hE, rfl⟩ := ptr_inv h1
      rw [int_inv h2, int_inv h3]
      unfold extCas at h
      split at h
      · rename_i cur hl
        obtain ⟨v, c1, c2⟩ := hW.cell hl hE
        rw [int_inv c2] at c1
        have hfz := hW.unfz hl hE
        have hrun := run_casI32 (P := P) (old := old) (nw := nw) c1 hfz
        rw [eqF_beq] at h
        split at h
        · rename_i heq
          split at h
          · rename_i s' hs
            cases h
            obtain ⟨w', g1, g2⟩ := hW.storeN (P := P) (vs := [.int .i32 nw]) hs hE (.cons _ _ _ _ (.int _ _) .nil) rfl
            refine ⟨_, s', rfl, E, .bool true, w', ?_, Grow.refl _ E, .bool _, g2, Fwd.store hs⟩
            rw [hrun, heq]
            simp only [if_true]
            rw [storeCells_one (P := P) c1 hfz] at g1
            cases g1; rfl
          · cases h
        · rename_i heq
          replace h := bif_some h; obtain ⟨_, h⟩ := h
          cases h
          refine ⟨_, s, rfl, E, .bool false, w, ?_, Grow.refl _ E, .bool _, hW, Fwd.refl _⟩
          rw [hrun, heq]
          rfl
      · cases h
    · cases h
  | add32 =>
    subst hg
    simp only at h
    split at h
    · rename_i b o d
      cases hv with
      | cons _ v1 _ vs h1 ht =>
      cases ht with
      | cons _ v2 _ vs h2 ht =>
      cases ht
      obtain ⟨l, hE, rfl⟩ := ptr_inv h1
      rw [int_inv h2]
      unfold extAdd at h
      split at h
      · rename_i cur hl
        obtain ⟨v, c1, c2⟩ := hW.cell hl hE
        rw [int_inv c2] at c1
        have hfz := hW.unfz hl hE
        split at h
        · rename_i s' hs
          cases h
          obtain ⟨w', g1, g2⟩ := hW.storeN (P := P) (vs := [.int .i32 (wrapF .i32 (Int.add cur d))]) hs hE (.cons _ _ _ _ (.int _ _) .nil) rfl
          refine ⟨_, s', rfl, E, .int .i32 (wrapF .i32 (Int.add cur d)), w', ?_, Grow.refl _ E, .int _ _, g2, Fwd.store hs⟩
          rw [storeCells_one (P := P) c1 hfz] at g1
          cases g1
          rw [wrapF_eq]
          exact Conc.run_add_entry c1 hfz
        · cases h
      · cases h
    · cases h
  | cmp =>
    subst hg
    simp only at h
    split at h
    · rename_i x y
      cases hv with
      | cons _ v1 _ vs h1 ht =>
      cases ht with
      | cons _ v2 _ vs h2 ht =>
      cases ht
      split at h
      · rename_i n m hn hm
        unfold cmpS at h
        split at h
        · cases h
        · rename_i xs hxs
          split at h
          · cases h
          · rename_i ys hys
            split at h
            · cases h
            · rename_i a ha
              split at h
              · cases h
              · rename_i b hb
                cases h
                obtain ⟨t, t1, rfl⟩ := bytesOf_ok (P := P) hW hn hxs ha h1
                obtain ⟨u, u1, rfl⟩ := bytesOf_ok (P := P) hW hm hys hb h2
                refine ⟨_, s, rfl, E, .int .i64 (Extern.BytealgCompare.cmp t u), w, ?_, Grow.refl _ E, ?_, hW, Fwd.refl _⟩
                · change Sem.run P (do pure (goInt (Extern.BytealgCompare.cmp (← Extern.Bytes.bytesOf v1) (← Extern.Bytes.bytesOf v2)))) w = _
                  simp [t1, u1, goInt]
                · rw [Lib.cmp_eq, cmpB_eq]; exact .int _ _
      · cases h
    · cases h
end
end Go.Ex
