/-
  What is read of memory ahead of a call, as data.
-/
import Derived.Test.YtjbokbikkcfjjaaGreatAae
import Derived.Deep.Slices
import Derived.ProofKit
set_option maxRecDepth 16000
set_option maxHeartbeats 8000000
set_option linter.all false
namespace Go.Cap
open Go.ChangeShapes Go.WideShapes Go.Deep
def below (w : World) : Nat → Prop := fun b => b < w.heap.size
section
variable {H : Type} {enc : TypeId × Value → H} {P : Program} {w : World} {t e : TypeId}
def Dec (enc : TypeId × Value → H) (P : Program) (w : World) (t : TypeId) {α : Type} (f : α → List T) (ok : α → Prop) : Prop :=
 ∀ fuel cs x, DataW.trod enc P w 0 (fun _ => true) true fuel t cs = some x → ∃ a, Qr (below w) w (f a) cs ∧ ok a
theorem Dec.map {α β : Type} {f : α → List T} {ok : α → Prop} {g : β → List T} {ok' : β → Prop} (h : Dec enc P w t f ok) (m : α → β) (hf : ∀ a, g (m a) = f a) (hi : ∀ a, ok a → ok' (m a)) : Dec enc P w t g ok' := fun fuel cs x hx =>
 let ⟨a, h1, h2⟩ := h fuel cs x hx
 ⟨m a, by rw [hf]; exact h1, hi a h2⟩
end
end Go.Cap
