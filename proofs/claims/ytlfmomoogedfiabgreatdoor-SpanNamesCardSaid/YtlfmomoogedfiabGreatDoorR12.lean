/- PROVED: operations that make one block. Conditions: those in each theorem's own words (the abstract state stands for the world). By an AI agent. -/
import Derived.Test.YtlfmomoogedfiabGreatDoorR11
namespace Go.Ex
/-- what a new block's operation leaves behind -/
structure Born (E : Env) (w w' : World) (x : AObj) (r : Nat → AV) (z : Value) (o : Obj) (n d : Nat) : Prop where
  world : w' = { w with heap := w.heap.push o, drawn := d }
  val : ∀ E' b, Env.le E E' → E' b = some ⟨w.heap.size, 0, n⟩ → VR E' (r b) z
  obj : ∀ E' w'', Env.le E E' → w''.heap[w.heap.size]? = some o → OR E' x ⟨w.heap.size, 0, n⟩ w''

section
variable {K : Nat → Prop} {w0 : World} {E : Env} {s : St} {w : World} {P : Program} {G : Nat} {tm : Tr AV} {ρ : Operand → Value}

theorem repN_len (z : List AV) : ∀ n, (repN n z).length = n * z.length := by
  intro n
  induction n with
  | zero => simp [repN]
  | succ n ih => simp [repN, ih, Nat.succ_mul, Nat.add_comm]
theorem repN_get (z : List AV) : ∀ n j, j < n * z.length → (repN n z)[j]? = z[j % z.length]? := by
  intro n
  induction n with
  | zero => intro j h; simp at h
  | succ n ih =>
    intro j h
    simp only [repN]
    by_cases c : j < z.length
    · rw [List.getElem?_append_left c, Nat.mod_eq_of_lt c]
    · rw [List.getElem?_append_right (by omega), ih _ (by rw [Nat.succ_mul] at h; omega)]
      congr 1
      rw [Nat.mod_eq_sub_mod (Nat.not_lt.1 c)]
theorem rep_ok {e : TypeId} {zv : AV} {n : Nat} (h : zeroA P e = some zv) :
    ∃ Z : Array Value, ((n * zv.cells.length = 0 ∧ Z = #[]) ∨ (n * zv.cells.length ≠ 0 ∧ ∃ v, (zeroValue e).run P w = .ok v w ∧ v.cells = Z)) ∧
      VRs E (repN n zv.cells) ((Array.range (n * zv.cells.length)).map (Z[· % Z.size]!)).toList := by
  obtain ⟨v, h1, h2, _⟩ := run_zeroValue h
  by_cases c : n * zv.cells.length = 0
  · refine ⟨#[], .inl ⟨c, rfl⟩, ?_⟩
    have : repN n zv.cells = [] := List.eq_nil_of_length_eq_zero (by rw [repN_len, c])
    have h0 : Array.range 0 = #[] := rfl
    rw [this, c, h0]; simp; exact .nil
  · refine ⟨v.cells, .inr ⟨c, v, h1 w, rfl⟩, ?_⟩
    have hv := (h2 E).cells
    have hl := hv.length
    have hl' : v.cells.size = zv.cells.length := by simpa using hl.symm
    have hz : 0 < zv.cells.length := Nat.pos_of_ne_zero fun q => c (by rw [q]; simp)
    refine VRs.of_get (by simp [repN_len]) fun j x y hx hy => ?_
    have hj : j < n * zv.cells.length := by rw [← repN_len]; exact (List.getElem?_eq_some_iff.1 hx).1
    rw [repN_get _ _ _ hj] at hx
    obtain ⟨u, g1, g2⟩ := hv.get hx
    simp only [Array.toList_map, Array.toList_range, List.getElem?_map, List.getElem?_range hj, Option.map_some, Option.some.injEq] at hy
    rw [← hy, hl']
    have : v.cells[j % zv.cells.length]? = some u := by rw [← g1]; simp
    rw [getElem!_def, this]
    exact g2
theorem cellsObj {E' : Env} {c : List AV} {z B : Nat} {C : Array Value} {el : TypeId} {fz : Nat × Nat} {w'' : World} (h : w''.heap[B]? = some (.cells C el fz)) (hv : VRs E' c C.toList)
    (hm : fz.1 = fz.2 ∨ C.size ≤ fz.1) : OR E' (.cells c z) ⟨B, 0, C.size⟩ w'' := by
  have hl := hv.length
  refine ⟨C, el, fz, h, rfl, by simp at hl ⊢; omega, hm, fun j x hx => ?_⟩
  obtain ⟨v, h1, h2⟩ := hv.get hx
  exact ⟨v, by simpa using h1, h2⟩
theorem born_cells {m : Sem Value} {c : List AV} {z' : Nat} {r : Nat → AV} {C : Array Value} {el : TypeId} {f : Addr → Value}
    (hm : m.run P w = .ok (f ⟨w.heap.size, 0, none⟩) { w with heap := w.heap.push (.cells C el (0, 0)) }) (hv : VRs E c C.toList)
    (hr : ∀ E' b, Env.le E E' → E' b = some ⟨w.heap.size, 0, C.size⟩ → VR E' (r b) (f ⟨w.heap.size, 0, none⟩)) :
    ∃ z w' o n d, m.run P w = .ok z w' ∧ Born E w w' (.cells c z') r z o n d :=
  ⟨_, _, _, _, w.drawn, hm, rfl, hr, fun _ _ hE' h => cellsObj h (hv.mono hE') (.inl rfl)⟩
theorem ptr_val {n : Nat} : ∀ E' b, Env.le E E' → E' b = some ⟨w.heap.size, 0, n⟩ → VR E' (ptrTo b) (.pointer (some ⟨w.heap.size, 0, none⟩)) :=
  fun E' b _ h => by have := VR.ptr (E := E') b 0 _ h; simpa [ptrTo] using this
theorem row_val {n l c : Nat} : ∀ E' b, Env.le E E' → E' b = some ⟨w.heap.size, 0, n⟩ → VR E' (.sl (some (b, 0)) l c) (.slice (some ⟨w.heap.size, 0, none⟩) l c) :=
  fun E' b _ h => by have := VR.sl (E := E') b 0 l c _ h; simpa using this
theorem born_next {m : Sem Value} {x : AObj} {r : Nat → AV} (h : ∃ z w' o n d, m.run P w = .ok z w' ∧ Born E w w' x r z o n d) :
    ∃ z w' o n d, (do pure (.value (← m)) : Sem Next).run P w = .ok (.value z) w' ∧ Born E w w' x r z o n d := by
  obtain ⟨z, w', o, n, d, h1, h2⟩ := h
  exact ⟨z, w', o, n, d, by simp [h1], h2⟩
theorem modify_push {α : Type} (a : Array α) (x : α) (f : α → α) : (a.push x).modify a.size f = a.push (f x) := by
  apply Array.ext_getElem?
  intro i
  rw [Array.getElem?_modify]
  by_cases c : a.size = i
  · subst c; simp
  · rw [if_neg c]
    simp only [Array.getElem?_push]
    rw [if_neg (Ne.symm c), if_neg (Ne.symm c)]

theorem nConv_ok (hρ : OpR E G tm ρ) {src dst : TypeId} {x : Operand} {y : AObj} {r : Nat → AV} (h : nConv P G tm src dst x = some (y, r)) :
    ∃ z w' o n d, (convert src dst (ρ x)).run P w = .ok z w' ∧ Born E w w' y r z o n d := by
  unfold nConv at h
  split at h
  · rename_i e l hs hd hx
    split at h
    · rename_i hu
      simp only [Option.some.injEq, Prod.mk.injEq] at h
      obtain ⟨rfl, rfl⟩ := h
      obtain ⟨t, hv, rfl⟩ := str_inv (hρ _ _ hx)
      rw [hv]
      let cap := (Question.appendCap t.size 0 e).cut (w.tape w.drawn (.appendCap t.size 0 e))
      have hcap : t.size ≤ cap := by simp only [cap, Question.cut]; omega
      let C : Array Value := (t.data.map fun b => (.int .u8 b.toNat : Value)) ++ Array.replicate (cap - t.size) (.int .u8 0)
      have hC : C.size = cap := by
        have : t.data.size = t.size := rfl
        simp only [C, Array.size_append, Array.size_map, Array.size_replicate, this]; omega
      have hvs : VRs E ((t.data.toList.map (·.toNat)).map fun (x : Nat) => .int .u8 (.ofNat x)) ((t.data.map fun b => (.int .u8 b.toNat : Value)).toList) := by
        simp only [Array.toList_map, List.map_map]
        induction t.data.toList with
        | nil => exact .nil
        | cons a l ih => exact .cons _ _ _ _ (.int _ _) ih
      refine ⟨.slice (some ⟨w.heap.size, 0, none⟩) t.size cap, { w with heap := w.heap.push (.cells C e (C.size, C.size + 1)), drawn := w.drawn + 1 }, .cells C e (C.size, C.size + 1), C.size, w.drawn + 1, ?_, rfl, ?_, ?_⟩
      · simp only [convert, Sem.run_bind, run_underlying hs, run_underlying hd, run_underlying hu, Result.andThen_ok, Conv.stringToBytes, run_choose]
        simp only [Question.forced, Bool.false_eq_true, if_false, Result.andThen_ok, newRow, Sem.run_bind, run_newObj, Sem.run_pure, markStringish, run_shape, World.shape?]
        simp only [Array.getElem?_push_size, run_freeze, World.freeze]
        rw [show w.heap.push (.cells ((t.data.map fun b => (.int .u8 b.toNat : Value)) ++ Array.replicate ((Question.appendCap t.size 0 e).cut (w.tape w.drawn (.appendCap t.size 0 e)) - t.size) (.int .u8 0)) e) = w.heap.push (.cells C e (0, 0)) from rfl, modify_push]
        rfl
      · intro E' b _ hb
        have := VR.slB (E := E') b 0 t.size 1 _ hb (by omega)
        simp only [Nat.add_zero, Nat.sub_zero, Nat.div_one, hC] at this
        have hl : (t.data.toList.map (·.toNat)).length = t.size := by simp
        rw [hl]; exact this
      · intro E' w'' hE' hw
        have hl := hvs.length
        refine ⟨C, e, _, hw, rfl, ?_, .inr (Nat.le_refl _), fun j x hx => ?_⟩
        · simp only [C, Array.size_append]
          simp only [Array.length_toList] at hl
          omega
        · obtain ⟨v, g1, g2⟩ := (hvs.mono hE').get hx
          refine ⟨v, ?_, g2⟩
          simp only [Nat.zero_add, C]
          have hj : j < (t.data.map fun b => (.int .u8 b.toNat : Value)).size := by
            have := (List.getElem?_eq_some_iff.1 g1).1; simpa using this
          rw [Array.getElem?_append_left hj, ← g1]; simp
    · cases h
  · cases h
theorem nAlloc_ok {t : TypeId} {y : AObj} {r : Nat → AV} (h : nAlloc P t = some (y, r)) :
    ∃ z w' o n d, (Instr.alloc t true (.tuple #[])).run P w = .ok z w' ∧ Born E w w' y r z o n d := by
  unfold nAlloc at h
  split at h
  · rename_i z hz
    simp only [Option.some.injEq, Prod.mk.injEq] at h
    obtain ⟨rfl, rfl⟩ := h
    obtain ⟨v, h1, h2, _⟩ := run_zeroValue hz
    exact born_cells (f := fun a => .pointer (some a)) (C := v.cells) (el := t) (by simp [Instr.alloc, h1, newVar, newRow]) (h2 E).cells ptr_val
  · cases h
theorem nBox_ok (hρ : OpR E G tm ρ) {t : TypeId} {x : Operand} {y : AObj} {r : Nat → AV} (h : nBox G tm x = some (y, r)) :
    ∃ z w' o n d, (Instr.box t (ρ x)).run P w = .ok z w' ∧ Born E w w' y r z o n d := by
  unfold nBox at h
  split at h
  · rename_i v hv
    replace h := bif_some h; obtain ⟨_, h⟩ := h
    simp only [Option.some.injEq, Prod.mk.injEq] at h
    obtain ⟨rfl, rfl⟩ := h
    exact born_cells (f := fun a => .pointer (some a)) (C := (ρ x).cells) (el := t) (by simp [Instr.box, newVar, newRow]) (hρ _ _ hv).cells ptr_val
  · cases h
theorem nBuildSlice_ok (hρ : OpR E G tm ρ) {t : TypeId} {n : Nat} {parts : Array (Nat × Operand)} {y : AObj} {r : Nat → AV} (h : nBuildSlice P G tm t n parts.toList = some (y, r)) :
    ∃ z w' o m d, (Instr.buildSlice t n (parts.map fun (i, x) => (i, ρ x))).run P w = .ok z w' ∧ Born E w w' y r z o m d := by
  unfold nBuildSlice at h
  split at h
  · rename_i e hu
    split at h
    · rename_i z zv ps hz hzv hps
      replace h := bif_some h; obtain ⟨hc, h⟩ := h
      simp only [Bool.and_eq_true, ble_iff, beq_iff] at hc
      obtain ⟨hc1, hc2⟩ := hc
      split at h
      · rename_i c hc
        simp only [Option.some.injEq, Prod.mk.injEq] at h
        obtain ⟨rfl, rfl⟩ := h
        obtain ⟨p1, p2⟩ := partsA_ok hρ hps
        have q1 : ps.map (·.1) = ((parts.map fun (i, x) => (i, ρ x)).toList).map (·.1) := by simp [p1, Function.comp_def]
        have q2 : VRs E (ps.map (·.2)) (((parts.map fun (i, x) => (i, ρ x)).toList).map (·.2)) := by simpa [Function.comp_def] using p2
        obtain ⟨Z, z1, z2⟩ := rep_ok (w := w) (E := E) (n := n) hzv
        rw [hc2] at z1 z2
        obtain ⟨C', f1, f2⟩ := fillA_ok hc q1 q2 z2
        refine born_cells (f := fun a => .slice (some a) n n) (C := C') (el := e) ?_ f2 row_val
        have hle : ¬ (n * z > 2 ^ 24) := by
          have : n * z ≤ 1000000 := hc1
          omega
        unfold Instr.buildSlice
        rw [Sem.run_bind, run_underlying hu, Result.andThen_ok]
        dsimp only
        rw [Sem.run_bind, run_sizeOf hz, Result.andThen_ok]
        rw [if_neg hle]
        rw [show (fun i => some (i * z, z)) = (fun i => some (Nat.mul i z, z)) from rfl]
        rcases z1 with ⟨c0, rfl⟩ | ⟨c0, v, c1, rfl⟩
        · simp only [c0, if_true, Sem.run_bind, Sem.run_pure, Result.andThen_ok]
          rw [c0] at f1
          rw [f1]; simp [newRow]
        · simp only [c0, if_false, Sem.run_bind, Sem.run_pure, Result.andThen_ok, c1]
          rw [f1]; simp [newRow]
      · cases h
    · cases h
  · cases h
theorem nMakeMap_ok (hρ : OpR E G tm ρ) {t : TypeId} {x : Option Operand} {y : AObj} {r : Nat → AV} (h : nMakeMap P G tm t x = some (y, r)) :
    ∃ z w' o n d, (Instr.makeMap t (x.map ρ)).run P w = .ok z w' ∧ Born E w w' y r z o n d := by
  have key : ∀ m : Sem Value, m.run P w = .ok (.map (some w.heap.size)) { w with heap := w.heap.push (.map #[] 0) } →
      ∃ z w' o n d, m.run P w = .ok z w' ∧ Born E w w' (.map [] 0) (fun b => .map (some b)) z o n d := fun m hm =>
    ⟨_, _, .map #[] 0, 0, w.drawn, hm, rfl, fun E' b _ h => .map b _ h, fun E' w'' _ h => ⟨rfl, #[], h, .nil⟩⟩
  unfold nMakeMap at h
  split at h
  · simp only [Option.some.injEq, Prod.mk.injEq] at h
    obtain ⟨rfl, rfl⟩ := h
    exact key _ (by simp [Instr.makeMap])
  · split at h
    · rename_i hu
      split at h
      · rename_i hx
        simp only [Option.some.injEq, Prod.mk.injEq] at h
        obtain ⟨rfl, rfl⟩ := h
        exact key _ (by simp [Instr.makeMap, run_underlying hu, int_inv (hρ _ _ hx), asInt, asIntOf])
      · cases h
    · cases h
theorem nRange_ok (hW : WR K w0 E s w) (hρ : OpR E G tm ρ) {t : TypeId} {x : Operand} {y : AObj} {r : Nat → AV} (h : nRange P G tm s t x = some (y, r)) :
    ∃ z w' o n d, (Instr.range t (ρ x)).run P w = .ok z w' ∧ Born E w w' y r z o n d := by
  unfold nRange at h
  split at h
  · rename_i hu hx
    simp only [Option.some.injEq, Prod.mk.injEq] at h
    obtain ⟨rfl, rfl⟩ := h
    refine ⟨.pointer (some ⟨w.heap.size, 0, none⟩), _, .mapIter none 0 #[] 0, 0, w.drawn, ?_, rfl, ptr_val, fun E' w'' _ h => ⟨rfl, none, h, rfl⟩⟩
    rw [mapn_inv (hρ _ _ hx)]
    simp [Instr.range, run_underlying hu]
  · rename_i m hu hx
    split at h
    · rename_i es c hm
      simp only [Option.some.injEq, Prod.mk.injEq] at h
      obtain ⟨rfl, rfl⟩ := h
      obtain ⟨l, hE, hv⟩ := map_inv (hρ _ _ hx)
      obtain ⟨_, _, es', h1, h2⟩ := hW.mapAt hm hE
      refine ⟨.pointer (some ⟨w.heap.size, 0, none⟩), _, .mapIter (some l.B) c #[] c, 0, w.drawn, ?_, rfl, ptr_val, fun E' w'' hE' h => ⟨rfl, some l.B, h, l, hE' _ _ hE, rfl⟩⟩
      rw [hv]
      have hg : (getObj l.B).run P w = .ok (.map es' c) w := by simp [getObj, Sem.run, h1]
      simp [Instr.range, run_underlying hu, hg]
    · cases h
  · cases h
theorem nMakeSlice_ok (hρ : OpR E G tm ρ) {t : TypeId} {l c : Operand} {y : AObj} {r : Nat → AV} (h : nMakeSlice P G tm t l c = some (y, r)) :
    ∃ z w' o n d, (Instr.makeSlice t (ρ l) (ρ c)).run P w = .ok z w' ∧ Born E w w' y r z o n d := by
  unfold nMakeSlice at h
  split at h
  · rename_i e k1 l' k2 c' hu hl hc
    split at h
    · rename_i inf zv hi hzv
      replace h := bif_some h; obtain ⟨hb, h⟩ := h
      simp only [Bool.and_eq_true, ble_iff, beq_iff] at hb
      obtain ⟨⟨⟨b1, b2⟩, b3⟩, b4⟩ := hb
      simp only [Option.some.injEq, Prod.mk.injEq] at h
      obtain ⟨rfl, rfl⟩ := h
      have hz : siz P e = some inf.size := by simp [siz, hi]
      obtain ⟨Z, z1, z2⟩ := rep_ok (w := w) (E := E) (n := c') hzv
      rw [b4] at z1 z2
      refine born_cells (f := fun a => .slice (some a) l' c') (el := e) ?_ z2 row_val
      rw [int_inv (hρ _ _ hl), int_inv (hρ _ _ hc)]
      have wi : ∀ n : Nat, n ≤ 1000000 → IntKind.i64.wrap (n : Int) = n := by
        intro n hn
        rw [← wrapF_eq]
        have hm : modk .i64 (n : Int) = n := by
          show n % 18446744073709551616 = n
          exact Nat.mod_eq_of_lt (by omega)
        have hb : Nat.ble (Nat.div (pw .i64) 2) n = false := by
          cases hq : Nat.ble (Nat.div (pw .i64) 2) n with
          | false => rfl
          | true => have := Nat.le_of_ble_eq_true hq; simp only [show Nat.div (pw .i64) 2 = 9223372036854775808 from rfl] at this; omega
        unfold wrapF
        simp only [show IntKind.i64.signed = true from rfl, hm, hb]
        rfl
      have wl := wi l' (by omega)
      have wc := wi c' b2
      have hbytes : (inf.bytes : Int) * c' ≤ 2 ^ 48 := by
        have : inf.bytes * c' ≤ 1000000 * 1000000 := Nat.mul_le_mul b3 b2
        have h2 : (inf.bytes : Int) * c' = ((inf.bytes * c' : Nat) : Int) := by simp
        rw [h2]; omega
      have n1 : ¬ ((c' : Int) < 0) := by omega
      have n2 : ¬ ((inf.bytes : Int) * (c' : Int) > 2 ^ 48) := by omega
      have n3 : ¬ ((l' : Int) < 0) := by omega
      have n4 : ¬ ((l' : Int) > (c' : Int)) := by omega
      unfold Instr.makeSlice
      simp only [Int.ofNat_eq_natCast, asInt, asIntOf, Sem.run_bind, run_underlying hu, Result.andThen_ok, Sem.run_pure, run_typeInfo hi, wl, wc, n1, n2, n3, n4, decide_false, Bool.or_false, Bool.false_eq_true, if_false, run_askRoom, run_sizeOf hz, Int.toNat_natCast]
      rcases z1 with ⟨c0, rfl⟩ | ⟨c0, v, c1, rfl⟩
      · simp [c0, newRow]
      · simp [c0, newRow, c1]
    · cases h
  · cases h
/-- operations that make a block -/
theorem execN_ok (hW : WR K w0 E s w) (hρ : OpR E G tm ρ) {o : Oper} {x : AObj} {r : Nat → AV} (h : execN P G tm s o.op = some (x, r)) :
    ∃ z w' ob n d, (execOp ρ o).run P w = .ok (.value z) w' ∧ Born E w w' x r z ob n d := by
  unfold execN at h
  cases ho : o.op with
  | alloc t => rw [ho] at h; unfold execOp; rw [ho]; exact born_next (nAlloc_ok h)
  | box t x => rw [ho] at h; unfold execOp; rw [ho]; exact born_next (nBox_ok hρ h)
  | buildSlice t n parts => rw [ho] at h; unfold execOp; rw [ho]; exact born_next (nBuildSlice_ok hρ h)
  | makeMap t r => rw [ho] at h; unfold execOp; rw [ho]; exact born_next (nMakeMap_ok hρ h)
  | makeSlice t l c => rw [ho] at h; unfold execOp; rw [ho]; exact born_next (nMakeSlice_ok hρ h)
  | range t x => rw [ho] at h; unfold execOp; rw [ho]; exact born_next (nRange_ok hW hρ h)
  | convert src dst x => rw [ho] at h; unfold execOp; rw [ho]; exact born_next (nConv_ok hρ h)
  | _ => rw [ho] at h; cases h
end
end Go.Ex
