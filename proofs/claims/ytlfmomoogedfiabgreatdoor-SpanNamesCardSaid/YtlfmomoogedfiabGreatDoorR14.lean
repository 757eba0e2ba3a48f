/- PROVED: append, in the relation. Conditions: those in each theorem's own words (the abstract state stands for the world). By an AI agent. -/
import Derived.Test.YtlfmomoogedfiabGreatDoorR13
namespace Go.Ex
/-- names are only added, the bar stays -/
structure Fwd (s s' : St) : Prop where
  nx : s.nx ≤ s'.nx
  lo : s'.lo = s.lo
/-- the naming grew, at new names alone -/
structure Grow (n : Nat) (E E' : Env) : Prop where
  le : Env.le E E'
  old : ∀ b, b < n → E' b = E b
theorem Grow.refl (n : Nat) (E : Env) : Grow n E E := ⟨Env.le_refl E, fun _ _ => rfl⟩
theorem Grow.trans {n m : Nat} {E F H : Env} (h : Grow n E F) (k : Grow m F H) (hnm : n ≤ m) : Grow n E H :=
  ⟨Env.le_trans h.le k.le, fun b hb => by rw [k.old b (by omega), h.old b hb]⟩
theorem Grow.add {E : Env} {b : Nat} {l : Loc} (h : E b = none) : Grow b E (E.add b l) :=
  ⟨Env.le_add h, fun i hi => by unfold Env.add; rw [if_neg (by omega)]⟩
/-- a value is yielded; blocks may have been made or written -/
def NV (K : Nat → Prop) (w0 : World) (P : Program) (E : Env) (s : St) (w : World) (m : Sem Value) (v : AV) (s' : St) : Prop :=
  ∃ E' z w', m.run P w = .ok z w' ∧ Grow s.nx E E' ∧ VR E' v z ∧ WR K w0 E' s' w' ∧ Fwd s s'
theorem Fwd.refl (s : St) : Fwd s s := ⟨Nat.le_refl _, rfl⟩
theorem Fwd.trans {a b c : St} (h : Fwd a b) (k : Fwd b c) : Fwd a c := ⟨Nat.le_trans h.nx k.nx, k.lo.trans h.lo⟩
theorem Fwd.set {s s' : St} {b : Nat} {x : AObj} (h : setObj s b x = some s') : Fwd s s' := by
  obtain ⟨_, rfl⟩ := setObj_some h
  exact ⟨Nat.le_refl _, rfl⟩
theorem Fwd.new (s : St) (x : AObj) : Fwd s (Ex.new s x) := ⟨by simp [Ex.new], rfl⟩
theorem Fwd.store {s s' : St} {b o : Nat} {cs : List AV} (h : storeN s b o cs = some s') : Fwd s s' := by
  unfold storeN at h
  split at h
  · split at h
    · exact Fwd.set h
    · cases h
  · cases h
theorem Fwd.storeT {P : Program} {t : TypeId} {s s' : St} {b o : Nat} {v : AV} (h : Ex.storeT P s t b o v = some s') : Fwd s s' := by
  obtain ⟨_, _, _, _, h4⟩ := flat_of_storeT h
  exact Fwd.store h4
section
variable {K : Nat → Prop} {w0 : World} {E : Env} {s : St} {w : World} {P : Program} {G : Nat} {tm : Tr AV} {ρ : Operand → Value}

theorem WR.same (hW : WR K w0 E s w) {m : Sem Value} {v : AV} (h : ∃ z, m.run P w = .ok z w ∧ VR E v z) : NV K w0 P E s w m v s := by
  obtain ⟨z, h1, h2⟩ := h
  exact ⟨E, z, w, h1, Grow.refl _ E, h2, hW, Fwd.refl _⟩
/-- a row that grew -/
theorem grown (hW : WR K w0 E s w) {old cs : List AV} {old' vs : Array Value} {zv : Value} {len n z newCap d : Nat} {e : TypeId} (ho : VRs E old old'.toList) (hv : VRs E cs vs.toList)
    (hol : old.length = len * z) (hcl : cs.length = n * z) (hz : zv.cells.size = z) (hz0 : 1 ≤ z) (hnc : len + n ≤ newCap) :
    ∃ E', Grow s.nx E E' ∧ VR E' (.slB s.nx 0 (len + n) z) (.slice (some ⟨w.heap.size, 0, none⟩) (len + n) newCap) ∧
      WR K w0 E' (Ex.new s (.cells (old ++ cs) z)) { w with heap := w.heap.push (.cells (old' ++ vs ++ Builtin.zeroCells zv.cells (newCap - (len + n))) e), drawn := d } := by
  have hl1 : old'.size = len * z := by rw [← hol]; simpa using ho.length.symm
  have hl2 : vs.size = n * z := by rw [← hcl]; simpa using hv.length.symm
  have hsz : (old' ++ vs ++ Builtin.zeroCells zv.cells (newCap - (len + n))).size = newCap * z := by
    simp only [Array.size_append, Builtin.zeroCells, Array.size_map, Array.size_range, hl1, hl2, hz]
    rw [← Nat.add_mul, ← Nat.add_mul]
    congr 1
    omega
  refine ⟨_, Grow.add hW.freshE, ?_, hW.new (x := .cells (old ++ cs) z) (n := newCap * z) (d := d) fun E' w' hE hw => ?_⟩
  · have := VR.slB (E := E.add s.nx ⟨w.heap.size, 0, newCap * z⟩) s.nx 0 (len + n) z _ (Env.add_same _ _ _) hz0
    simp only [Nat.add_zero, Nat.sub_zero, Nat.mul_div_cancel _ hz0] at this
    exact this
  · have hv' := (ho.append hv).mono hE
    refine ⟨_, _, _, hw, hsz, ?_, .inl rfl, fun j x hx => ?_⟩
    · rw [hsz]
      show 0 + (old ++ cs).length ≤ newCap * z
      rw [Nat.zero_add, List.length_append, hol, hcl, ← Nat.add_mul]
      exact Nat.mul_le_mul hnc (Nat.le_refl _)
    · obtain ⟨v, g1, g2⟩ := hv'.get hx
      refine ⟨v, ?_, g2⟩
      show (old' ++ vs ++ _)[0 + j]? = some v
      rw [Nat.zero_add]
      have hj : j < (old' ++ vs).size := by
        have := (List.getElem?_eq_some_iff.1 g1).1; simpa using this
      rw [Array.getElem?_append_left hj, ← g1, Array.getElem?_toList.symm]; simp
theorem appendA_ok (hW : WR K w0 E s w) {ts : Array TypeId} {ty : TypeId} {v x r : AV} {v' x' : Value} {s' : St} (h : appendA P ts s v x = some (r, s')) (hv : VR E v v') (hx : VR E x x') :
    NV K w0 P E s w (Builtin.append_ ts ty #[v', x']) r s' := by
  unfold appendA at h
  split at h
  · cases h
  rename_i t ht
  split at h
  · rename_i e hu
    split at h
    · rename_i inf hi
      split at h
      · rename_i n cs hn
        obtain ⟨zs, vs, hA, hvs⟩ := appNew_ok hW hi hn hx
        unfold appGo at h
        simp only [Nat.add_eq, Nat.mul_eq] at h
        replace h := bif_some h; obtain ⟨hc, h⟩ := h
        simp only [Bool.and_eq_true, ble_iff, beq_iff] at hc
        obtain ⟨⟨⟨⟨⟨c1, c2⟩, c3⟩, c4⟩, c5⟩, c6⟩ := hc
        have zok : zeroOK inf.zero inf.size = true → ∃ zv, (∀ w, (zeroValue e).run P w = .ok zv w) ∧ zv.cells.size = inf.size := by
          intro hz
          unfold zeroOK at hz
          split at hz
          · rename_i zv hzv
            rw [beq_iff] at hz
            have hz0 : zeroA P e = some zv := by simp [zeroA, hi, hzv]
            obtain ⟨u, z1, z2, _⟩ := run_zeroValue hz0
            exact ⟨u, z1, by rw [← hz]; simpa using (z2 E).cells.length.symm⟩
          · cases hz
        split at h
        · rename_i base len cap
          cases hfit : Nat.ble (len + n) cap with
          | true =>
            rw [hfit] at h
            simp only [cond_true] at h
            rw [ble_iff] at hfit
            unfold appS at h
            simp only [Nat.add_eq, Nat.mul_eq] at h
            split at h
            · rename_i b o
              obtain ⟨l, hE, rfl⟩ := sl_inv hv
              split at h
              · rename_i s2 hs
                cases h
                obtain ⟨w', g1, g2⟩ := hW.storeN (P := P) hs hE hvs c6
                refine ⟨E, _, w', ?_, Grow.refl _ E, .sl b o (len + n) cap l hE, g2, Fwd.store hs⟩
                rw [run_append_in ht hu hi c5 hA hfit]
                simp only [add_none]
                rw [show l.o + o + len * inf.size = l.o + (o + len * inf.size) by omega, g1]
                rfl
              · cases h
            · obtain ⟨rfl, rfl, rfl⟩ := sln_inv hv
              have : n = 0 := by have : 0 + n ≤ 0 := hfit; omega
              subst this
              cases h
              refine ⟨E, .slice none 0 0, w, ?_, Grow.refl _ E, .nils, hW, Fwd.refl _⟩
              rw [run_append_in ht hu hi c5 hA hfit]
              rfl
          | false =>
            rw [hfit] at h
            simp only [cond_false] at h
            have hfit' : ¬ len + n ≤ cap := fun q => by rw [(ble_iff _ _).2 q] at hfit; cases hfit
            replace h := bif_some h; obtain ⟨hc, h⟩ := h
            simp only [Bool.and_eq_true, ble_iff] at hc
            unfold appG at h
            split at h
            · rename_i old ho
              replace h := bif_some h; obtain ⟨hz, h⟩ := h
              simp only [Bool.and_eq_true, beq_iff] at hz
              obtain ⟨zv, z1, z2⟩ := zok hz.2
              cases h
              obtain ⟨old', o1, o2⟩ := firstX_ok (P := P) hW ho hv
              obtain ⟨a', cc, hva⟩ := lenS_len (n := len) rfl hv
              have hcc : cc = cap := by
                cases base with
                | none => obtain ⟨_, rfl, q⟩ := sln_inv hv; rw [hva] at q; cases q; rfl
                | some p => obtain ⟨l, _, q⟩ := sl_inv (b := p.1) (o := p.2) hv; rw [hva] at q; cases q; rfl
              subst hcc
              subst hva
              obtain ⟨nc, n1, n2⟩ := run_append_grow (ty := ty) (old := old'.toArray) (zv := zv) ht hu hi c5 hA hfit' (by omega) (by omega) (fun d => by
                obtain ⟨old2, q1, q2⟩ := firstX_ok (P := P) (hW.drawn d) ho hv
                rw [q1, o2.fun q2]) z1
              obtain ⟨E', e1, e2, e3⟩ := grown (w := w) (d := w.drawn + 1) (e := e) hW (old' := old'.toArray) o2 hvs hz.1 c1 z2 c2 n1
              exact ⟨E', _, _, n2, e1, e2, e3, Fwd.new _ _⟩
            · cases h
        · rename_i b o len z'
          replace h := bif_some h; obtain ⟨hc, h⟩ := h
          simp only [Bool.and_eq_true, beq_iff, ble_iff] at hc
          obtain ⟨rfl, hlen⟩ := hc
          obtain ⟨l, hE, hz0, rfl⟩ := slB_inv hv
          unfold appB at h
          simp only [Nat.add_eq, Nat.mul_eq] at h
          split at h
          · rename_i c zz hb
            obtain ⟨C, el, fz, g1, g2⟩ := hW.obj _ _ _ hb hE
            have hfits := g2.fits
            have htot := g2.tot
            cases hin : Nat.ble (o + (len + n) * inf.size) c.length with
            | true =>
              rw [hin] at h
              simp only [cond_true] at h
              rw [ble_iff] at hin
              have hin' : o + (len + n) * inf.size ≤ c.length := hin
              split at h
              · rename_i s2 hs
                cases h
                obtain ⟨w', k1, k2⟩ := hW.storeN (P := P) hs hE hvs c6
                have hcap : len + n ≤ (l.tot - l.o - o) / inf.size := by
                  rw [Nat.le_div_iff_mul_le hz0]; omega
                refine ⟨E, _, w', ?_, Grow.refl _ E, .slB b o (len + n) inf.size l hE hz0, k2, Fwd.store hs⟩
                rw [run_append_in ht hu hi c5 hA hcap]
                simp only [add_none]
                rw [show l.o + o + len * inf.size = l.o + (o + len * inf.size) by omega, k1]
                rfl
              · cases h
            | false =>
              rw [hin] at h
              simp only [cond_false] at h
              replace h := bif_some h; obtain ⟨hc, h⟩ := h
              simp only [Bool.and_eq_true, ble_iff] at hc
              obtain ⟨hol, hz⟩ := hc
              have hol' : o + len * inf.size ≤ c.length := hol
              obtain ⟨zv, z1, z2⟩ := zok hz
              split at h
              · rename_i old ho
                split at h
                · rename_i s2 hs
                  cases h
                  have hfirst : firstA s inf.size len (.slB b o len inf.size) = some old := by
                    show loadN s b o (len * inf.size) = some old
                    unfold loadN cellsAt
                    rw [hb]
                    exact ho
                  obtain ⟨old', o1, o2⟩ := firstX_ok (P := P) hW hfirst hv
                  obtain ⟨t1, t2⟩ := takeN_some ho
                  rw [dropN_eq] at t1 t2
                  have holen : old.length = len * inf.size := by
                    rw [t2, List.length_take]
                    omega
                  have hnx : s2.nx = s.nx := by obtain ⟨_, rfl⟩ := setObj_some hs; rfl
                  by_cases hcap : len + n ≤ (l.tot - l.o - o) / inf.size
                  · -- in place
                    have hcap' := (Nat.le_div_iff_mul_le hz0).1 hcap
                    rw [Nat.add_mul] at hcap'
                    have hvl : vs.toList.length = n * inf.size := by rw [← hvs.length, c1]
                    obtain ⟨w', C', r1, r2, r3, r4, r5⟩ := run_storeCells (P := P) (off := l.o + o + len * inf.size) vs.toList 0 C w g1 g2.marks (by omega) (flat_one c6 hvs)
                    have hW' := hW.take (off := o) (x' := .cells (old ++ cs) inf.size) hE hb (by simp) hs r2 (fun E' hE' => ?_)
                    · rw [show (s2.nx) = s.nx from hnx]
                      refine ⟨_, .slice (some ⟨l.B, l.o + o, none⟩) (len + n) ((l.tot - l.o - o) / inf.size), w', ?_, Grow.add hW.freshE, ?_, hW', (Fwd.set hs).trans (Fwd.new _ _)⟩
                      · rw [run_append_in ht hu hi c5 hA hcap]
                        simp only [add_none]
                        rw [r1]
                        rfl
                      · have := VR.slB (E := E.add s.nx ⟨l.B, l.o + o, l.tot⟩) s.nx 0 (len + n) inf.size _ (Env.add_same _ _ _) hz0
                        simp only [Nat.add_zero, Nat.sub_zero] at this
                        rw [show l.tot - (l.o + o) = l.tot - l.o - o by omega] at this
                        exact this
                    · refine ⟨C', el, fz, r3, by rw [r4]; exact htot, ?_, by rw [r4]; exact g2.marks, fun j x hx => ?_⟩
                      · rw [r4, List.length_append, holen, c1, htot]
                        dsimp only
                        omega
                      · rw [r5]
                        dsimp only
                        by_cases hj : j < len * inf.size
                        · rw [if_neg (by omega)]
                          rw [List.getElem?_append_left (by omega)] at hx
                          rw [t2, List.getElem?_take] at hx
                          rw [if_pos hj, List.getElem?_drop] at hx
                          obtain ⟨u, u1, u2⟩ := g2.cell _ _ hx
                          exact ⟨u, by rw [← u1]; congr 1; omega, u2.mono hE'⟩
                        · rw [List.getElem?_append_right (by omega), holen] at hx
                          obtain ⟨u, u1, u2⟩ := hvs.get hx
                          have hjl := (List.getElem?_eq_some_iff.1 u1).1
                          refine ⟨u, ?_, u2.mono hE'⟩
                          rw [if_pos (by omega), ← u1]
                          congr 1; omega
                  · -- it grows
                    obtain ⟨nc, n1, n2⟩ := run_append_grow (ty := ty) (old := old'.toArray) (zv := zv) ht hu hi c5 hA hcap (by omega) (by omega) (fun d => by
                      obtain ⟨old2, q1, q2⟩ := firstX_ok (P := P) (hW.drawn d) hfirst hv
                      rw [q1, o2.fun q2]) z1
                    have hW2 : WR K w0 E s2 w := hW.write hE hb (by simp) hs (.refl _ _) trivial
                    obtain ⟨E', e1, e2, e3⟩ := grown (w := w) (d := w.drawn + 1) (e := e) hW2 (old' := old'.toArray) o2 hvs holen c1 z2 c2 n1
                    rw [hnx] at e1
                    exact ⟨E', _, _, n2, e1, e2, e3, (Fwd.set hs).trans (Fwd.new _ _)⟩
                · cases h
              · cases h
          · cases h
        · rename_i b o k z'
          replace h := bif_some h; obtain ⟨hc, h⟩ := h
          rw [beq_iff] at hc
          subst hc
          cases h
          obtain ⟨l, hE, hz0, rfl⟩ := slE_inv hv
          refine ⟨E, _, w, ?_, Grow.refl _ E, hv, hW, Fwd.refl _⟩
          unfold emptyAt
          rw [run_append_in ht hu hi c5 hA (by omega)]
          have hvl : vs.toList = [] := by
            have := hvs.length
            rw [c1] at this
            exact List.eq_nil_of_length_eq_zero (by rw [← this]; exact Nat.zero_mul _)
          rw [hvl]
          rfl
        · cases h
      · cases h
    · cases h
  · cases h
end
end Go.Ex
