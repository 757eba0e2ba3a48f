/- PROVED: conversions, interfaces, function values, fields, indices. Conditions: those in each theorem's own words (the abstract state stands for the world). By an AI agent. -/
import Derived.Test.YtlfmomoogedfiabGreatDoorR7
namespace Go.Ex
section
variable {K : Nat → Prop} {w0 : World} {E : Env} {s : St} {w : World} {P : Program} {G : Nat} {tm : Tr AV} {ρ : Operand → Value}

/-! ### Bytes of a slice -/
theorem takeL_eq (n : Nat) (l : List Nat) : takeL n l = l.take n := by
  induction n generalizing l with
  | zero => rfl
  | succ n ih => cases l with
    | nil => rfl
    | cons x l => simp [takeL, ih]
/-- the first n elements' cells of a slice -/
theorem firstA_ok (hW : WR K w0 E s w) {z n : Nat} {x : AV} {v : Value} {cs : List AV} (h : firstA s z n x = some cs) (hx : VR E x v) (hl : lenS x ≠ none) :
    ∃ vs, (Builtin.firstCells z n v).run P w = .ok vs.toArray w ∧ VRs E cs vs := by
  cases x with
  | sl a m c =>
    cases a with
    | none => obtain ⟨_, _, rfl⟩ := sln_inv hx; simp [firstA] at h; subst h; exact ⟨[], by simp [Builtin.firstCells], .nil⟩
    | some a =>
      obtain ⟨b, o⟩ := a
      obtain ⟨l, hE, rfl⟩ := sl_inv hx
      obtain ⟨vs, h1, h2, _⟩ := hW.loadN (P := P) (show loadN s b o (n * z) = some cs from h) hE
      exact ⟨vs, by simpa [Builtin.firstCells] using h1, h2⟩
  | slB b o m z' =>
    obtain ⟨l, hE, _, rfl⟩ := slB_inv hx
    obtain ⟨vs, h1, h2, _⟩ := hW.loadN (P := P) (show loadN s b o (n * z) = some cs from h) hE
    exact ⟨vs, by simpa [Builtin.firstCells] using h1, h2⟩
  | slE b o m z' =>
    obtain ⟨l, hE, _, rfl⟩ := slE_inv hx
    simp only [firstA] at h
    split at h
    · rename_i hn; subst hn; simp at h; subst h
      exact ⟨[], by simp [Builtin.firstCells, emptyAt, loadCells, loadCellsFrom], .nil⟩
    · simp at h
  | _ => simp [lenS] at hl
theorem toBytes_ok : ∀ {cs : List AV} {vs : List Value} {l : List Nat}, toBytes cs = some l → VRs E cs vs →
    ∃ ns : List Int, vs = ns.map (Value.int .u8) ∧ l = ns.map fun n => n.toNat % 256 := by
  intro cs
  induction cs with
  | nil => intro vs l h hv; cases hv; simp [toBytes] at h; subst h; exact ⟨[], rfl, rfl⟩
  | cons x cs ih =>
    intro vs l h hv
    cases hv with | cons _ v _ vs hx hv =>
    simp only [toBytes] at h
    cases h1 : toByte x with
    | none => simp [h1] at h
    | some m =>
      cases h2 : toBytes cs with
      | none => simp [h1, h2] at h
      | some l' =>
        simp [h1, h2] at h; subst h
        obtain ⟨ns, e1, e2⟩ := ih h2 hv
        unfold toByte at h1
        split at h1
        · rename_i n
          simp at h1; subst h1
          cases hx
          exact ⟨n :: ns, by simp [e1], by simp [e2]⟩
        · simp at h1
theorem foldl_push : ∀ (ns : List Int) (b : ByteArray), (ns.foldl (fun r n => r.push (UInt8.ofNat n.toNat)) b).data.toList = b.data.toList ++ ns.map fun n => UInt8.ofNat n.toNat := by
  intro ns
  induction ns with
  | nil => intro b; simp
  | cons n ns ih => intro b; rw [List.foldl_cons, ih]; simp [ByteArray.push]
theorem lenS_len {x : AV} {v : Value} {n : Nat} (h : lenS x = some n) (hx : VR E x v) : ∃ a c, v = .slice a n c := by
  cases x with
  | sl a m c =>
    simp [lenS] at h; subst h
    cases a with
    | none => obtain ⟨rfl, _, rfl⟩ := sln_inv hx; exact ⟨_, _, rfl⟩
    | some a => obtain ⟨l, _, rfl⟩ := sl_inv (b := a.1) (o := a.2) hx; exact ⟨_, _, rfl⟩
  | slB b o m z' => simp [lenS] at h; subst h; obtain ⟨l, hE, _, rfl⟩ := slB_inv hx; exact ⟨_, _, rfl⟩
  | slE b o m z' => simp [lenS] at h; subst h; obtain ⟨l, hE, _, rfl⟩ := slE_inv hx; exact ⟨_, _, rfl⟩
  | _ => simp [lenS] at h
theorem lConvB_ok (hW : WR K w0 E s w) {src dst e : TypeId} {x r : AV} {v : Value} (h : lConvB P s e x = some r) (hx : VR E x v)
    (hs : P.underlying src = some (.slice e)) (hd : P.underlying dst = some .string) : ∃ z, (convert src dst v).run P w = .ok z w ∧ VR E r z := by
  unfold lConvB at h
  split at h
  · rename_i he
    split at h
    · rename_i n hn
      split at h
      · rename_i cs hcs
        split at h
        · rename_i l hl
          simp at h; subst h
          obtain ⟨a, c, rfl⟩ := lenS_len hn hx
          obtain ⟨vs, h1, h2⟩ := firstA_ok (P := P) hW hcs hx (by rw [hn]; simp)
          obtain ⟨ns, rfl, rfl⟩ := toBytes_ok hl h2
          rw [run_convert_bytes_string w src dst e a n c hs he hd]
          cases a with
          | none =>
            refine ⟨.string .empty, by simp [Conv.bytesToString], ?_⟩
            simp [Builtin.firstCells] at h1
            subst h1
            exact .str _ _ (by simp)
          | some a =>
            simp only [Builtin.firstCells, Nat.mul_one] at h1
            refine ⟨_, run_bytesToString w a n c ns (by rw [h1]), .str _ _ ?_⟩
            rw [foldl_push]
            simp [Function.comp_def]
        · simp at h
      · simp at h
    · simp at h
  · simp at h
theorem lConv_ok (hW : WR K w0 E s w) (hρ : OpR E G tm ρ) {src dst : TypeId} {x : Operand} {r : AV} (h : lConv P G tm s src dst x = some r) :
    ∃ z, (convert src dst (ρ x)).run P w = .ok z w ∧ VR E r z := by
  unfold lConv at h
  split at h
  · rename_i k' n hx
    rw [int_inv (hρ _ _ hx)]
    split at h
    · rename_i k hd
      split at h
      · rename_i hs
        simp at h; subst h
        refine ⟨.int k (k.wrap n), ?_, by rw [← wrapF_eq]; exact .int _ _⟩
        simp [convert, run_underlying hs, run_underlying hd, Conv.intToInt]
      · simp at h
    · simp at h
  · rename_i l hx
    have hv := hρ _ _ hx
    obtain ⟨t, e, _⟩ := str_inv hv
    split at h
    · rename_i hd
      split at h
      · rename_i hs
        simp at h; subst h
        refine ⟨ρ x, ?_, hv⟩
        rw [e]
        simp [convert, run_underlying hs, run_underlying hd]
      · simp at h
    · simp at h
  · rename_i b o hx
    have hv := hρ _ _ hx
    split at h
    · rename_i hd
      split at h
      · rename_i e hs
        split at h
        · rename_i c hc
          split at h
          · rename_i n hn
            obtain ⟨l, hE, e1⟩ := ptr_inv hv
            obtain ⟨C, el, fz, g1, g2⟩ := hW.cells hc hE
            cases hb : (Nat.ble 1 n && Nat.ble (Nat.succ o) c.length) with
            | false => simp [hb] at h
            | true =>
              rw [hb] at h; simp at h; subst h
              rw [Bool.and_eq_true] at hb
              have h1 := Nat.le_of_ble_eq_true hb.1
              have h2 := Nat.le_of_ble_eq_true hb.2
              have h3 := g2.fits
              refine ⟨ρ x, ?_, hv⟩
              have hsh : w.shape? l.B = some (el, C.size) := by simp [World.shape?, g1]
              have hseen : (Conv.seenAt ⟨l.B, l.o + o, none⟩).run P w = .ok ⟨l.B, l.o + o, none⟩ w := by
                simp [Conv.seenAt, viewAt, hsh]
              have hci : (cellsIn l.B).run P w = .ok (some C.size) w := by simp [cellsIn, hsh]
              rw [e1]
              simp [convert, run_underlying hs, run_underlying hd, Conv.unsafePointer, hseen, hci, run_sizeOf hn]
              omega
          · simp at h
        · simp at h
      · simp at h
    · simp at h
  · rename_i v h1 h2 h3 hx
    split at h
    · rename_i hd
      split at h
      · rename_i e hs
        exact lConvB_ok hW h (hρ _ _ hx) hs hd
      · simp at h
    · simp at h
  · simp at h

theorem lIface_ok (hρ : OpR E G tm ρ) {t : TypeId} {x : Operand} {r : AV} (h : lIface P G tm t x = some r) :
    ∃ z, (Instr.makeInterface t (ρ x)).run P w = .ok z w ∧ VR E r z := by
  unfold lIface at h
  split at h
  · simp at h
  · rename_i d hn hu
    split at h
    · rename_i v hx
      simp at h; subst h
      refine ⟨.iface t (ρ x), ?_, .iface _ _ _ (hρ _ _ hx)⟩
      unfold Instr.makeInterface
      rw [Sem.run_bind, run_underlying hu, Result.andThen_ok]
      cases d <;> first | rfl | exact absurd rfl (hn _)
    · simp at h
  · simp at h
theorem lFunc_ok (hρ : OpR E G tm ρ) {fn : Fn} {f c : Array Operand} {r : AV} (h : lFunc G tm fn f.toList c.toList = some r) :
    ∃ z, (Instr.makeFunc fn (f.map ρ) (c.map ρ)).run P w = .ok z w ∧ VR E r z := by
  unfold lFunc at h
  split at h
  · rename_i a ha
    split at h
    · rename_i b hb
      simp at h; subst h
      refine ⟨_, rfl, ?_⟩
      have h1 := evs_ok hρ ha
      have h2 := evs_ok hρ hb
      have e1 : f.map ρ = ⟨f.toList.map ρ⟩ := by apply Array.ext'; simp
      have e2 : c.map ρ = ⟨c.toList.map ρ⟩ := by apply Array.ext'; simp
      rw [e1, e2]
      exact .fn _ _ _ _ _ h1 h2
    · simp at h
  · simp at h
theorem fieldOf_some {t : TypeId} {f : Nat} {fd : Field} (h : fieldOf P t f = some fd) : ∃ fs, P.underlying t = some (.struct fs) ∧ fs[f]? = some fd := by
  unfold fieldOf at h
  split at h
  · rename_i fs hu; exact ⟨fs, hu, h⟩
  · simp at h
theorem lFieldAddr_ok (hρ : OpR E G tm ρ) {t : TypeId} {x : Operand} {f : Nat} {r : AV} (h : lFieldAddr P G tm t x f = some r) :
    ∃ z, (Instr.fieldAt t (ρ x) f).run P w = .ok z w ∧ VR E r z := by
  unfold lFieldAddr at h
  split at h
  · rename_i b o hx
    obtain ⟨l, hE, e⟩ := ptr_inv (hρ _ _ hx)
    split at h
    · rename_i fd hf
      obtain ⟨fs, hu, hfs⟩ := fieldOf_some hf
      cases hz : siz P fd.type with
      | none => simp [hz] at h
      | some z =>
        cases z with
        | zero => simp [hz] at h
        | succ z =>
          simp [hz] at h; subst h
          refine ⟨.pointer (some ⟨l.B, l.o + (o + fd.offset), none⟩), ?_, .ptr _ _ _ hE⟩
          simp [Instr.fieldAt, run_underlying hu, hfs, e, Instr.sureAddr, fieldPlace, run_sizeOf hz, add_none, Nat.add_assoc]
    · simp at h
  · simp at h
theorem lField_ok (hρ : OpR E G tm ρ) {t : TypeId} {x : Operand} {f : Nat} {r : AV} (h : lField P G tm t x f = some r) :
    ∃ z, (Instr.field t (ρ x) f).run P w = .ok z w ∧ VR E r z := by
  unfold lField at h
  split at h
  · rename_i cs hx
    obtain ⟨vs, e, hv⟩ := agg_inv (hρ _ _ hx)
    split at h
    · rename_i fd hf
      obtain ⟨fs, hu, hfs⟩ := fieldOf_some hf
      obtain ⟨z, h1, h2⟩ := run_part (P := P) (w := w) h hv
      exact ⟨z, by simp [Instr.field, run_underlying hu, hfs, e, asAgg, h1], h2⟩
    · simp at h
  · simp at h
theorem idxA_ok {e : TypeId} {b o n : Nat} {i : Int} {r : AV} {l : Loc} (h : idxA P e b o n i = some r) (hE : E b = some l) :
    ∃ z, siz P e = some z ∧ (0 ≤ i ∧ i < n) ∧ VR E r (.pointer (some ((Addr.mk l.B (l.o + o) none).add (i.toNat * z)))) := by
  unfold idxA at h
  split at h
  · rename_i z hz
    rw [notNeg_eq, ltF_eq] at h
    by_cases hc : 0 ≤ i ∧ i < n
    · have : (decide (0 ≤ i) && decide (i < Int.ofNat n)) = true := by simp [hc.1]; exact hc.2
      rw [this] at h
      simp at h; subst h
      refine ⟨z, hz, hc, ?_⟩
      rw [add_none, show l.o + o + i.toNat * z = l.o + (o + i.toNat * z) by omega]
      exact .ptr _ _ _ hE
    · have : (decide (0 ≤ i) && decide (i < Int.ofNat n)) = false := by
        rw [Bool.and_eq_false_iff, decide_eq_false_iff_not, decide_eq_false_iff_not]
        by_cases h0 : 0 ≤ i
        · exact .inr fun h1 => hc ⟨h0, h1⟩
        · exact .inl h0
      rw [this] at h; simp at h
  · simp at h
theorem lIndexAddr_ok (hρ : OpR E G tm ρ) {t : TypeId} {x i : Operand} {r : AV} (h : lIndexAddr P G tm t x i = some r) :
    ∃ z, (Instr.indexAt t (ρ x) (ρ i)).run P w = .ok z w ∧ VR E r z := by
  unfold lIndexAddr at h
  split at h
  · rename_i k n hi
    rw [int_inv (hρ _ _ hi)]
    split at h
    · rename_i b o hx
      obtain ⟨l, hE, e⟩ := ptr_inv (hρ _ _ hx)
      split at h
      · rename_i m el hu
        obtain ⟨z, hz, hc, hv⟩ := idxA_ok h hE
        refine ⟨_, ?_, hv⟩
        simp [Instr.indexAt, run_underlying hu, e, asIntOf, Instr.sureAddr, run_sizeOf hz, hc.1, hc.2]
      · simp at h
    · rename_i b o m c hx
      obtain ⟨l, hE, e⟩ := sl_inv (hρ _ _ hx)
      split at h
      · rename_i el hu
        obtain ⟨z, hz, hc, hv⟩ := idxA_ok h hE
        refine ⟨_, ?_, hv⟩
        simp [Instr.indexAt, run_underlying hu, e, asIntOf, run_sizeOf hz, hc.1, hc.2]
      · simp at h
    · rename_i b o m c hx
      obtain ⟨l, hE, _, e⟩ := slB_inv (hρ _ _ hx)
      split at h
      · rename_i el hu
        obtain ⟨z, hz, hc, hv⟩ := idxA_ok h hE
        refine ⟨_, ?_, hv⟩
        simp [Instr.indexAt, run_underlying hu, e, asIntOf, run_sizeOf hz, hc.1, hc.2]
      · simp at h
    · simp at h
  · simp at h
theorem lIndex_ok (hρ : OpR E G tm ρ) {t : TypeId} {x i : Operand} {r : AV} (h : lIndex P G tm t x i = some r) :
    ∃ z, (Instr.index t (ρ x) (ρ i)).run P w = .ok z w ∧ VR E r z := by
  unfold lIndex at h
  split at h
  · rename_i k n hi
    rw [int_inv (hρ _ _ hi)]
    split at h
    · rename_i cs hx
      obtain ⟨vs, e, hv⟩ := agg_inv (hρ _ _ hx)
      split at h
      · rename_i m el hu
        split at h
        · rename_i z hz
          rw [notNeg_eq, ltF_eq] at h
          by_cases hc : 0 ≤ n ∧ n < m
          · have : (decide (0 ≤ n) && decide (n < Int.ofNat m)) = true := by simp [hc.1]; exact hc.2
            rw [this] at h
            simp only [cond_true] at h
            obtain ⟨y, h1, h2⟩ := run_part (P := P) (w := w) h hv
            refine ⟨y, ?_, h2⟩
            have h1' : Sem.run P (part el { toList := vs } (n.toNat * z)) w = Result.ok y w := h1
            simp [Instr.index, run_underlying hu, e, asIntOf, run_sizeOf hz, hc.1, hc.2, h1']
          · have : (decide (0 ≤ n) && decide (n < Int.ofNat m)) = false := by
              rw [Bool.and_eq_false_iff, decide_eq_false_iff_not, decide_eq_false_iff_not]
              by_cases h0 : 0 ≤ n
              · exact .inr fun h1 => hc ⟨h0, h1⟩
              · exact .inl h0
            rw [this] at h; simp at h
        · simp at h
      · simp at h
    · rename_i l hx
      obtain ⟨t', e, hl⟩ := str_inv (hρ _ _ hx)
      split at h
      · rename_i hu
        rw [notNeg_eq, nth_eq] at h
        by_cases h0 : 0 ≤ n
        · simp only [h0, decide_true, cond_true] at h
          split at h
          · rename_i b hb
            simp at h; subst h
            rw [hl, List.getElem?_map] at hb
            obtain ⟨c, h1, h2⟩ := Option.map_eq_some_iff.1 hb
            refine ⟨.int .u8 (c.toNat : Int), ?_, by rw [h2]; exact .int _ _⟩
            have hb' : t'[n.toNat]? = some c := by
              have : n.toNat < t'.data.toList.length := by
                rcases Nat.lt_or_ge n.toNat t'.data.toList.length with q | q
                · exact q
                · rw [List.getElem?_eq_none q] at h1; cases h1
              rw [List.getElem?_eq_getElem this] at h1
              have hs : n.toNat < t'.size := by simpa using this
              rw [getElem?_pos t' n.toNat hs]
              rw [← h1]
              rfl
            simp [Instr.index, run_underlying hu, e, asIntOf, h0, hb']
          · simp at h
        · simp [h0] at h
      · simp at h
    · simp at h
  · simp at h
end
end Go.Ex
