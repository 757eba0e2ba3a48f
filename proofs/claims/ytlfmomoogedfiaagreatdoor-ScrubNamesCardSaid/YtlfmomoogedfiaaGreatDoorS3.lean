/- PROVED: the stand-ins of the functions without a body are as the executor has them. No condition. By an AI agent. -/
import Derived.Test.YtlfmomoogedfiaaGreatDoorS1
import Derived.KernelRfl
import Derived.Test.YtlfmomoogedfiaaGreatDoorRows
namespace Go.Proofs
open Go.Ex
theorem ext_ok : ExtOK Tryz.prog extK := by
  intro f e fn he hf
  have key : ∀ (k : FuncId) (fk : Func), Tryz.prog.funcs[k]? = some fk → f = k → fn = fk := fun k fk h1 h2 => by
    subst h2; rw [h1] at hf; exact (Option.some.inj hf).symm
  unfold extK at he
  split at he <;> first | (cases he; done) | skip
  · cases he; have := key 94 _ Tryz.func94 rfl; subst this; exact ⟨by kernel_rfl, by kernel_rfl, _, (show Extern.find Tryz.f94 = some (fun _ => do mark .disable; pure Extern.Race.none_) by kernel_rfl), _, rfl⟩
  · cases he; have := key 96 _ Tryz.func96 rfl; subst this; exact ⟨by kernel_rfl, by kernel_rfl, _, (show Extern.find Tryz.f96 = some (fun _ => do mark .enable; pure Extern.Race.none_) by kernel_rfl), _, rfl⟩
  · cases he; have := key 97 _ Tryz.func97 rfl; subst this; exact ⟨by kernel_rfl, by kernel_rfl, _, (show Extern.find Tryz.f97 = some (Extern.Race.marked .acquire) by kernel_rfl), _, rfl⟩
  · cases he; have := key 99 _ Tryz.func99 rfl; subst this; exact ⟨by kernel_rfl, by kernel_rfl, _, (show Extern.find Tryz.f99 = some (Extern.Race.marked .releaseMerge) by kernel_rfl), _, rfl⟩
  · cases he; have := key 95 _ Tryz.func95 rfl; subst this; exact ⟨by kernel_rfl, by kernel_rfl, _, (show Extern.find Tryz.f95 = some (Extern.Atomic.casT (.int .i32)) by kernel_rfl), rfl⟩
  · cases he; have := key 100 _ Tryz.func100 rfl; subst this; exact ⟨by kernel_rfl, by kernel_rfl, _, (show Extern.find Tryz.f100 = some (Extern.Atomic.update (Op.intArith .add) .i32 true) by kernel_rfl), rfl⟩
  · cases he; have := key 88 _ Tryz.func88 rfl; subst this; exact ⟨by kernel_rfl, by kernel_rfl, _, (show Extern.find Tryz.f88 = some Extern.BytealgCompare.compare by kernel_rfl), rfl⟩
end Go.Proofs
