/- PROVED: the start: package variables as their tables are laid. Conditions: those in each theorem's own words (the abstract state stands for the world). By an AI agent. -/
import Derived.Test.YtlfmomoogedfiabGreatDoorR30
import Derived.OpenShut
import Derived.FnData
namespace Go.Ex
def envOf (W : World) (G : Nat) : Env := fun i => if i < G then some ⟨i, 0, match W.heap[i]? with | some (.cells C _ _) => C.size | _ => 0⟩ else none
theorem start_ok {W : World} {g : Tr AObj} {G : Nat} (hG : G ≤ W.heap.size)
    (hobj : ∀ i x, g.get i = some x → i < G ∧ ∃ C t c, W.heap[i]? = some (.cells C t (0, 0)) ∧ x = .cells c 0 ∧ c.length ≤ C.size ∧ ∀ (j : Nat) (y : AV), c[j]? = some y → ∃ v, C[j]? = some v ∧ ∀ E, VR E y v) :
    WR (fun B => B < W.heap.size) W (envOf W G) ⟨g, G, G⟩ W ∧ Glob (envOf W G) G := by
  refine ⟨⟨fun b x l h1 h2 => ?_, fun b b' l l' x x' e1 e2 g1 g2 d1 d2 hB => ?_, fun b l h => ?_, fun B hB => ⟨hB, rfl⟩, fun b l h hl => ?_, Nat.le_refl _, Nat.le_refl _, rfl, rfl, rfl⟩, fun i hi => ⟨_, by unfold envOf; rw [if_pos hi]⟩⟩
  · obtain ⟨hb, C, t, c, k1, rfl, k2, k3⟩ := hobj b x h1
    unfold envOf at h2
    rw [if_pos hb, k1] at h2
    cases h2
    refine ⟨C, t, (0, 0), k1, rfl, by simpa using k2, .inl rfl, fun j y hy => ?_⟩
    obtain ⟨v, v1, v2⟩ := k3 j y hy
    exact ⟨v, by simpa using v1, v2 _⟩
  · unfold envOf at e1 e2
    split at e1
    · split at e2
      · cases e1; cases e2; exact hB
      · cases e2
    · cases e1
  · unfold envOf at h
    split at h
    · rename_i hb; cases h; exact ⟨hb, Nat.lt_of_lt_of_le hb hG⟩
    · cases h
  · unfold envOf at h
    split at h
    · rename_i hb
      have : G ≤ b := hl
      omega
    · cases h
theorem table_cells {H : Type} {enc : TypeId × Value → H} {P : Program} {w : World} {base : Nat} {spare : Nat → Bool} {held : Bool} {fuel n : Nat} {t e : TypeId} {k : IntKind} {cs : Array Value} {p : List MemPlace} {ns : List Int}
    (ht : P.underlying t = some (.array n e)) (he : P.underlying e = some (.int k)) (c1 : P.cellsOf e = 1)
    (hd : DataW.trod enc P w base spare held fuel t cs.toList = some (.agg (ns.map fun i => .lit (.int k i)), p)) : ∀ (j : Nat) (i : Int), ns[j]? = some i → cs[j]? = some (Value.int k i) := by
  intro j i hj
  obtain ⟨xs, m, rfl, hx, hlen, hn, hel⟩ := DataW.trod_array ht hd
  simp only [Prod.mk.injEq, DataW.agg.injEq] at hx
  have hjn : j < n := by
    have h1 := (List.getElem?_eq_some_iff.1 hj).1
    have h2 := congrArg List.length hx.1
    simp at h2
    omega
  have h0 := hel j hjn
  have hxj : ∃ x, xs[j]? = some x ∧ x.1 = .lit (.int k i) := by
    have h3 := congrArg (fun l => l[j]?) hx.1
    simp only [List.getElem?_map, hj, Option.map_some] at h3
    cases hq : xs[j]? with
    | none => rw [hq] at h3; cases h3
    | some x => rw [hq] at h3; exact ⟨x, rfl, (Option.some.inj h3).symm⟩
  obtain ⟨x, hx1, hx2⟩ := hxj
  rw [hx1, c1] at h0
  obtain ⟨v, e1, e2, _⟩ := DataW.trod_int he h0
  rw [e2] at hx2
  have hv : v = i := by simpa using hx2
  subst hv
  have := congrArg (fun l => l[0]?) e1
  simp only [Nat.mul_one, List.getElem?_take, List.getElem?_drop] at this
  simpa using this
end Go.Ex
