/- PROVED: the stand-ins of the functions without a body are as the executor has them. No condition. By an AI agent. -/
import Derived.Test.YtlfmomoogedfiabGreatDoorS1
import Derived.KernelRfl
import Derived.Test.YtlfmomoogedfiabGreatDoorRows
namespace Go.Proofs
open Go.Ex
theorem ext_ok : ExtOK Tryz.prog extK := by
  intro f e fn he hf
  have key : ∀ (k : FuncId) (fk : Func), Tryz.prog.funcs[k]? = some fk → f = k → fn = fk := fun k fk h1 h2 => by
    subst h2; rw [h1] at hf; exact (Option.some.inj hf).symm
  unfold extK at he
  split at he <;> first | (cases he; done) | skip
  · cases he; have := key 105 _ Tryz.func105 rfl; subst this; exact ⟨by kernel_rfl, by kernel_rfl, _, (show Extern.find Tryz.f105 = some (fun _ => do mark .disable; pure Extern.Race.none_) by kernel_rfl), _, rfl⟩
  · cases he; have := key 107 _ Tryz.func107 rfl; subst this; exact ⟨by kernel_rfl, by kernel_rfl, _, (show Extern.find Tryz.f107 = some (fun _ => do mark .enable; pure Extern.Race.none_) by kernel_rfl), _, rfl⟩
  · cases he; have := key 108 _ Tryz.func108 rfl; subst this; exact ⟨by kernel_rfl, by kernel_rfl, _, (show Extern.find Tryz.f108 = some (Extern.Race.marked .acquire) by kernel_rfl), _, rfl⟩
  · cases he; have := key 110 _ Tryz.func110 rfl; subst this; exact ⟨by kernel_rfl, by kernel_rfl, _, (show Extern.find Tryz.f110 = some (Extern.Race.marked .releaseMerge) by kernel_rfl), _, rfl⟩
  · cases he; have := key 106 _ Tryz.func106 rfl; subst this; exact ⟨by kernel_rfl, by kernel_rfl, _, (show Extern.find Tryz.f106 = some (Extern.Atomic.casT (.int .i32)) by kernel_rfl), rfl⟩
  · cases he; have := key 111 _ Tryz.func111 rfl; subst this; exact ⟨by kernel_rfl, by kernel_rfl, _, (show Extern.find Tryz.f111 = some (Extern.Atomic.update (Op.intArith .add) .i32 true) by kernel_rfl), rfl⟩
  · cases he; have := key 87 _ Tryz.func87 rfl; subst this; exact ⟨by kernel_rfl, by kernel_rfl, _, (show Extern.find Tryz.f87 = some Extern.BytealgCompare.compare by kernel_rfl), rfl⟩
end Go.Proofs
