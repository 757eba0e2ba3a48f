/- PROVED: the law's call, from any world in which the listed tables are laid, returns true and leaves every old block. Condition: laidMetH of the row's tables. By an AI agent. -/
import Derived.Test.YtlfmomoogedfiabGreatDoorR31
import Derived.Test.YtlfmomoogedfiabGreatDoorS2
import Derived.Test.YtlfmomoogedfiabGreatDoorS3
namespace Go.Proofs.YtlfmomoogedfiabGreatDoor
open Go.ChangeShapes Go.WideShapes Go.ChangeAt Go.RowKit
open Go.Ex Go.Proofs
theorem tbl_ok : ∀ e ∈ tbl, entOK Tryz.prog 4 extK gg 1000 e = true := by
  intro e he
  simp only [tbl, List.mem_cons, List.not_mem_nil, or_false] at he
  rcases he with rfl | rfl | rfl | rfl
  · exact ent0_ok
  · exact ent1_ok
  · exact ent2_ok
  · exact ent3_ok
/-- what the condition says of a table's block -/
def Tab (W : World) (g : Nat) (ns : List Int) : Prop :=
  ∃ C t, W.heap[g]? = some (.cells C t (0, 0)) ∧ ns.length ≤ C.size ∧ ∀ (j : Nat) (i : Int), ns[j]? = some i → C[j]? = some (Value.int .u32 i)
theorem tab_of {W : World} {nm : String} {g t n fuel : Nat} {cs : Array Value} {p : List MemPlace} {ns : List Int} (hg : Tryz.prog.globalNamed nm = some g) (hv : W.var? Tryz.prog nm = some cs)
    (hu : Tryz.prog.underlying t = some (.array n 85)) (hd : DataW.trod (fun _ => ()) Tryz.prog W 0 (fun _ => true) false fuel t cs.toList = some (.agg (ns.map fun i => .lit (.int .u32 i)), p)) (hne : ns ≠ [])
    (hz : ∀ b off, MemPlace.cell b off ∈ MemPlace.row ⟨g, 0, none⟩ cs.size → ∃ c t, W.heap[b]? = some (.cells c t (0, 0))) : Tab W g ns := by
  have hc := table_cells hu u85 c85 hd
  have hpn : 0 < ns.length := List.length_pos_iff.2 hne
  have hlen : ns.length ≤ cs.size := by
    have hlt : ns.length - 1 < ns.length := by omega
    have hl : ns[ns.length - 1]? = some (ns[ns.length - 1]'hlt) := List.getElem?_eq_getElem hlt
    have := (Array.getElem?_eq_some_iff.1 (hc _ _ hl)).1
    omega
  have hpos : 0 < cs.size := by omega
  obtain ⟨c, t', hh⟩ := hz g 0 (by
    unfold MemPlace.row
    rw [List.mem_map]
    exact ⟨0, by simpa using hpos, rfl⟩)
  have hcs : cs = c := by
    simp only [World.var?, hg, Option.bind_some, hh, Option.some.injEq] at hv
    exact hv.symm
  subst hcs
  exact ⟨cs, t', hh, hlen, hc⟩
def ffI : List Int := [1779033703, 3144134277, 1013904242, 2773480762, 1359893119, 2600822924, 528734635, 1541459225]
def kkI : List Int := kk.filterMap fun | .int _ n => some n | _ => none
theorem kk_eq : kk = kkI.map fun n => .int .u32 n := by rfl
theorem ff_eq : ff = ffI.map fun n => .int .u32 n := by rfl
theorem of_laid {W : World} (h : laidMetH Tryz.prog laid3 W) : Tab W 0 ffI ∧ Tab W 3 kkI ∧ Tab W 2 kkI := by
  rw [MakeChecks.laidMetH_plain _ _ _ (by kernel_rfl)] at h
  obtain ⟨ps, ⟨g3, t3, cs3, f3, p3, q3, hg3, ht3, hv3, hd3, ⟨g2, t2, cs2, f2, p2, q2, hg2, ht2, hv2, hd2, ⟨g0, t0, cs0, f0, p0, q0, hg0, ht0, hv0, hd0, hq0, rfl⟩, rfl⟩, rfl⟩, _, hz⟩ := h
  obtain rfl := Option.some.inj (gRounds.symm.trans hg3)
  obtain rfl := Option.some.inj (gK.symm.trans hg2)
  obtain rfl := Option.some.inj (gFirst.symm.trans hg0)
  obtain rfl := Option.some.inj (tRounds.symm.trans ht3)
  obtain rfl := Option.some.inj (tK.symm.trans ht2)
  obtain rfl := Option.some.inj (tFirst.symm.trans ht0)
  refine ⟨tab_of hg0 hv0 u177 (ns := ffI) hd0 (by simp [ffI]) fun b off hm => (hz b off ?_).1, tab_of hg2 hv2 u197 (ns := kkI) hd2 (by decide) fun b off hm => (hz b off ?_).1, tab_of hg3 hv3 u197 (ns := kkI) hd3 (by decide) fun b off hm => (hz b off ?_).1⟩
  · simp only [List.mem_append]; exact .inr (.inr (.inl (.inl hm)))
  · simp only [List.mem_append]; exact .inr (.inl (.inl hm))
  · simp only [List.mem_append]; exact .inl (.inl hm)
theorem start {W : World} (h : laidMetH Tryz.prog laid3 W) (hs : 4 ≤ W.heap.size) : WR (fun B => B < W.heap.size) W (envOf W 4) s0 W ∧ Glob (envOf W 4) 4 := by
  obtain ⟨h0, h3, h2⟩ := of_laid h
  have tabVR : ∀ {g : Nat} {ns : List Int} {c : List AV}, Tab W g ns → c = ns.map (fun n => .int .u32 n) → ∃ C t c', W.heap[g]? = some (.cells C t (0, 0)) ∧ AObj.cells c 0 = .cells c' 0 ∧ c'.length ≤ C.size ∧ ∀ (j : Nat) (y : AV), c'[j]? = some y → ∃ v, C[j]? = some v ∧ ∀ E, VR E y v := by
    intro g ns c ⟨C, t, k1, k2, k3⟩ hc
    subst hc
    refine ⟨C, t, _, k1, rfl, by simpa using k2, fun j y hy => ?_⟩
    rw [List.getElem?_map] at hy
    cases hn : ns[j]? with
    | none => rw [hn] at hy; cases hy
    | some i => rw [hn] at hy; cases hy; exact ⟨_, k3 j i hn, fun E => .int _ _⟩
  refine start_ok hs fun i x hx => ?_
  simp only [gg, Tr.get_set, Tr.get_room] at hx
  by_cases e3 : i = 3
  · rw [if_pos e3] at hx; cases hx; subst e3; exact ⟨by decide, tabVR h3 kk_eq⟩
  · rw [if_neg e3] at hx
    by_cases e2 : i = 2
    · rw [if_pos e2] at hx; cases hx; subst e2; exact ⟨by decide, tabVR h2 kk_eq⟩
    · rw [if_neg e2] at hx
      by_cases e0 : i = 0
      · rw [if_pos e0] at hx; cases hx; subst e0; exact ⟨by decide, tabVR h0 ff_eq⟩
      · rw [if_neg e0] at hx; cases hx
theorem walk {W : World} (h : laidMetH Tryz.prog laid3 W) (hs : 4 ≤ W.heap.size) : Calls Tryz.prog 3 #[] W fun e W' => e = .returned (.bool true) ∧ W'.os = W.os ∧ W'.output = W.output ∧ ∀ i, i < W.heap.size → W'.heap[i]? = W.heap[i]? := by
  obtain ⟨hW, hG⟩ := start h hs
  have hm := memo_ok (K := fun B => B < W.heap.size) (w0 := W) (ids := [103, 104]) mixed ext_ok tbl_ok
  have hR := run_ok mixed ext_ok hm 1000
  have hrun := main_run
  unfold isT at hrun
  split at hrun
  · rename_i u s' hr
    refine (hR.call 3 [] s0 _ u s' hr _ W [] hW hG .nil).mono fun e W' q => ?_
    obtain ⟨E', z, rfl, _, hz, hw, _⟩ := q
    rw [bool_inv hz]
    exact ⟨rfl, hw.os, hw.output, fun i hi => (hw.keep i hi).2⟩
  · cases hrun
end Go.Proofs.YtlfmomoogedfiabGreatDoor
