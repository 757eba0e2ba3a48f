/- PROVED: what an operation yields hangs on its operands and on memory alone. Conditions: those in each theorem's own words (the abstract state stands for the world). By an AI agent. -/
import Derived.Test.YtlfmomoogedfiabGreatDoorR18
namespace Go.Ex
section
variable {P : Program} {G : Nat} {tm tm' : Tr AV} {s s' : St} {ext : FuncId → Option Ext}

/-! ### What an operation yields hangs on its operands alone, and on memory -/
theorem evs_congr : ∀ {l : List Operand}, (∀ x ∈ l, evA G tm x = evA G tm' x) → evs G tm l = evs G tm' l := by
  intro l
  induction l with
  | nil => intro _; rfl
  | cons x l ih =>
    intro h
    simp only [evs]
    rw [h x (by simp), ih fun y hy => h y (by simp [hy])]
theorem partsA_congr : ∀ {l : List (Nat × Operand)}, (∀ x ∈ l, evA G tm x.2 = evA G tm' x.2) → partsA G tm l = partsA G tm' l := by
  intro l
  induction l with
  | nil => intro _; rfl
  | cons x l ih =>
    intro h
    obtain ⟨i, x⟩ := x
    simp only [partsA]
    rw [h (i, x) (by simp), ih fun y hy => h y (by simp [hy])]
theorem optE_congr {x : Option Operand} (h : ∀ y, x = some y → evA G tm y = evA G tm' y) : optE G tm x = optE G tm' x := by
  cases x with
  | none => rfl
  | some x => simp only [optE]; rw [h x rfl]
theorem resolveA_congr {c : Call} (h : ∀ x ∈ c.operands, evA G tm x = evA G tm' x) : resolveA G tm c = resolveA G tm' c := by
  have h1 : evs G tm c.args.toList = evs G tm' c.args.toList := evs_congr fun x hx => h x (by
    unfold Call.operands
    exact Array.mem_append.2 (.inr (Array.mem_toList_iff.1 hx)))
  unfold resolveA
  rw [h1]
  split
  · rfl
  · split
    · rename_i f hf
      rw [h f (by simp [Call.operands, hf])]
    · rename_i r n hf
      rw [h r (by simp [Call.operands, hf])]
    · rfl
theorem mem_args {c : Call} {x : Operand} (hx : x ∈ c.args.toList) : x ∈ c.operands := by
  unfold Call.operands
  exact Array.mem_append.2 (.inr (Array.mem_toList_iff.1 hx))
theorem lLen_congr {l : List Operand} {ts : List TypeId} (h : ∀ x ∈ l, evA G tm x = evA G tm' x) : lLen P G tm s l ts = lLen P G tm' s l ts := by
  unfold lLen
  rcases l with _ | ⟨x, _ | ⟨y, l⟩⟩ <;> simp only []
  rw [h x (by simp)]
theorem lCap_congr {l : List Operand} {ts : List TypeId} (h : ∀ x ∈ l, evA G tm x = evA G tm' x) : lCap P G tm l ts = lCap P G tm' l ts := by
  unfold lCap
  rcases l with _ | ⟨x, _ | ⟨y, l⟩⟩ <;> simp only []
  rw [h x (by simp)]
theorem lTwo_congr {f : AV → AV → Option AV} {l : List Operand} (h : ∀ x ∈ l, evA G tm x = evA G tm' x) : lTwo G tm f l = lTwo G tm' f l := by
  unfold lTwo
  rcases l with _ | ⟨x, _ | ⟨y, _ | ⟨z, l⟩⟩⟩ <;> simp only []
  rw [h x (by simp), h y (by simp)]
theorem lCall_congr {c : Call} (h : ∀ x ∈ c.operands, evA G tm x = evA G tm' x) : lCall P G tm s c = lCall P G tm' s c := by
  have h' : ∀ x ∈ c.args.toList, evA G tm x = evA G tm' x := fun x hx => h x (mem_args hx)
  unfold lCall
  split
  · split
    · exact lLen_congr h'
    · exact lCap_congr h'
    · exact lTwo_congr h'
    · exact lTwo_congr h'
    · rfl
  · rfl
theorem hCall_congr {c : Call} (h : ∀ x ∈ c.operands, evA G tm x = evA G tm' x) : hCall P G ext tm s c = hCall P G ext tm' s c := by
  have h' : evs G tm c.args.toList = evs G tm' c.args.toList := evs_congr fun x hx => h x (mem_args hx)
  unfold hCall
  split
  · split
    · simp only [hAppend, h']
    · simp only [hCopy, h']
    · simp only [hDelete, h']
    · rfl
    · rfl
  · rw [resolveA_congr h]
theorem exec_congr {op : Op} (h : ∀ x ∈ op.operands, evA G tm x = evA G tm' x) :
    execL P G tm s op = execL P G tm' s op ∧ execN P G tm s op = execN P G tm' s op ∧ execH P G ext tm s op = execH P G ext tm' s op := by
  cases op <;> simp only [Op.operands] at h
  case move x => exact ⟨h x (by simp), rfl, rfl⟩
  case assign x => exact ⟨h x (by simp), rfl, rfl⟩
  case pick c a b => refine ⟨?_, rfl, rfl⟩; simp only [execL, lPick, h c (by simp), h a (by simp), h b (by simp)]
  case box t x => refine ⟨rfl, ?_, rfl⟩; simp only [execN, nBox, h x (by simp)]
  case build t ps =>
    refine ⟨?_, rfl, rfl⟩
    have : partsA G tm ps.toList = partsA G tm' ps.toList := partsA_congr fun x hx => h x.2 (by simpa using ⟨x.1, Array.mem_toList_iff.1 hx⟩)
    simp only [execL, lBuild, this]
  case buildSlice t n ps =>
    refine ⟨rfl, ?_, rfl⟩
    have : partsA G tm ps.toList = partsA G tm' ps.toList := partsA_congr fun x hx => h x.2 (by simpa using ⟨x.1, Array.mem_toList_iff.1 hx⟩)
    simp only [execN, nBuildSlice, this]
  case load t x => refine ⟨?_, rfl, rfl⟩; simp only [execL, lLoad, h x (by simp)]
  case store t a x => refine ⟨rfl, rfl, ?_⟩; simp only [execH, hStore, h x (by simp), h a (by simp)]
  case nilCheck x => refine ⟨?_, rfl, rfl⟩; simp only [execL, lNil, h x (by simp)]
  case binOp op t x y c => refine ⟨?_, rfl, rfl⟩; simp only [execL, lBin, h x (by simp), h y (by simp)]
  case unOp op t x => refine ⟨?_, rfl, rfl⟩; simp only [execL, lUn, h x (by simp)]
  case convert src dst x => refine ⟨?_, ?_, ?_⟩ <;> simp only [execL, lConv, execN, nConv, execH, hConv, h x (by simp)]
  case makeInterface t x => refine ⟨?_, rfl, rfl⟩; simp only [execL, lIface, h x (by simp)]
  case makeFunc fn f c =>
    refine ⟨?_, rfl, rfl⟩
    have h1 : evs G tm f.toList = evs G tm' f.toList := evs_congr fun x hx => h x (Array.mem_append.2 (.inl (Array.mem_toList_iff.1 hx)))
    have h2 : evs G tm c.toList = evs G tm' c.toList := evs_congr fun x hx => h x (Array.mem_append.2 (.inr (Array.mem_toList_iff.1 hx)))
    simp only [execL, lFunc, h1, h2]
  case makeMap t r =>
    refine ⟨rfl, ?_, rfl⟩
    cases r with
    | none => rfl
    | some x => simp only [execN, nMakeMap, h x (by simp)]
  case makeSlice t l c => refine ⟨rfl, ?_, rfl⟩; simp only [execN, nMakeSlice, h l (by simp), h c (by simp)]
  case slice t x lo hi mx =>
    refine ⟨?_, rfl, rfl⟩
    have h1 : optE G tm lo = optE G tm' lo := optE_congr fun y hy => h y (by subst hy; simp)
    have h2 : optE G tm hi = optE G tm' hi := optE_congr fun y hy => h y (by subst hy; simp)
    have h3 : optE G tm mx = optE G tm' mx := optE_congr fun y hy => h y (by subst hy; simp)
    simp only [execL, lSlice, h x (by simp), h1, h2, h3]
  case fieldAddr t x f => refine ⟨?_, rfl, rfl⟩; simp only [execL, lFieldAddr, h x (by simp)]
  case field t x f => refine ⟨?_, rfl, rfl⟩; simp only [execL, lField, h x (by simp)]
  case indexAddr t x i => refine ⟨?_, rfl, rfl⟩; simp only [execL, lIndexAddr, h x (by simp), h i (by simp)]
  case index t x i => refine ⟨?_, rfl, rfl⟩; simp only [execL, lIndex, h x (by simp), h i (by simp)]
  case lookup t x i ok => refine ⟨?_, rfl, rfl⟩; simp only [execL, lLookup, h x (by simp), h i (by simp)]
  case mapUpdate t m k x => refine ⟨rfl, rfl, ?_⟩; simp only [execH, hMapUpdate, h x (by simp), h k (by simp), h m (by simp)]
  case mapEntry t m k => refine ⟨rfl, rfl, ?_⟩; simp only [execH, hMapEntry, h k (by simp), h m (by simp)]
  case entryStore t m k x => refine ⟨rfl, rfl, ?_⟩; simp only [execH, hEntryStore, h x (by simp), h k (by simp), h m (by simp)]
  case range t x => refine ⟨rfl, ?_, rfl⟩; simp only [execN, nRange, h x (by simp)]
  case next x b =>
    refine ⟨rfl, rfl, ?_⟩
    cases b with
    | true => rfl
    | false => simp only [execH, hNext, h x (by simp)]
  case typeAssert x xt t ok => refine ⟨?_, rfl, rfl⟩; simp only [execL, lAssert, h x (by simp)]
  case extract t i => refine ⟨?_, rfl, rfl⟩; simp only [execL, lExtract, h t (by simp)]
  case call c => exact ⟨lCall_congr h, rfl, hCall_congr h⟩
  case «defer» c => refine ⟨rfl, rfl, ?_⟩; simp only [execH, hDefer, resolveA_congr h]
  case panic x => refine ⟨rfl, rfl, ?_⟩; simp only [execH, hPanic, h x (by simp)]
  all_goals exact ⟨rfl, rfl, rfl⟩
/-- what does not read memory does not hang on it -/
theorem execL_pure {op : Op} (h : readsH P op = false) : execL P G tm s op = execL P G tm s' op := by
  unfold readsH at h
  split at h
  · cases op <;> simp at h <;> rfl
  · cases h
/-- a block's operation names its block -/
theorem execN_base {op : Op} {x : AObj} {r : Nat → AV} (h : execN P G tm s op = some (x, r)) (b : Nat) : baseOf (r b) = some b := by
  cases op <;> simp only [execN] at h <;> (try (cases h; done))
  case alloc t => unfold nAlloc at h; split at h <;> cases h; rfl
  case box t x => unfold nBox at h; split at h; · { replace h := bif_some h; obtain ⟨_, h⟩ := h; cases h; rfl }; · cases h
  case buildSlice t n ps =>
    unfold nBuildSlice at h
    split at h
    · split at h
      · replace h := bif_some h; obtain ⟨_, h⟩ := h
        split at h <;> cases h; rfl
      · cases h
    · cases h
  case makeMap t r =>
    unfold nMakeMap at h
    split at h
    · cases h; rfl
    · split at h
      · split at h <;> cases h; rfl
      · cases h
  case makeSlice t l c =>
    unfold nMakeSlice at h
    split at h
    · split at h
      · replace h := bif_some h; obtain ⟨_, h⟩ := h; cases h; rfl
      · cases h
    · cases h
  case range t x =>
    unfold nRange at h
    split at h
    · cases h; rfl
    · split at h <;> cases h; rfl
    · cases h
  case convert src dst x =>
    unfold nConv at h
    split at h
    · split at h <;> cases h; rfl
    · cases h
end
end Go.Ex
