/-
  Acts, messages, read of memory.
-/
import Derived.Test.YtppaabahbjgihaaFivs
import Derived.Test.YtppaabahbjgihaaBridge
import Derived.Test.YtppaabahbjgihaaRead
set_option maxRecDepth 10000
namespace Go.Proofs.Ytppaabahbjgihaa
open Go.Cap
open Go.ChangeShapes Go.WideShapes Go.ChangeAt
section
variable {H : Type} {enc : TypeId × Value → H} {w : World}
theorem dec_i : Dec enc Try.prog w 3 (fun n : Int => [ei n]) (fun _ => True) := (dec_int (k := .i64) (by rfl)).imp fun _ _ => trivial
theorem dec_s : Dec enc Try.prog w 9 (fun l : List UInt8 => [es l]) (fun l => l.length ≤ maxLen) := dec_str (by rfl)
theorem dec_b : Dec enc Try.prog w 4 (fun b : Bool => [eB b]) (fun _ => True) := dec_bool (by rfl)
theorem dec_ac : Dec enc Try.prog w 58 (fun a : Ac => [ei a.kind, ei a.i, ei a.n, es a.cmd]) (fun a => a.cmd.length ≤ maxLen) :=
  Dec.map (dec_struct (by rfl) (by rfl) (decf_cons (k := 1) (by rfl) (by rfl) dec_i (decf_cons (k := 1) (by rfl) (by rfl) dec_i (decf_cons (k := 1) (by rfl) (by rfl) dec_i (decf_cons (k := 1) (by rfl) (by rfl) dec_s decf_nil))))) (fun a => Ac.mk a.1 a.2.1 a.2.2.1 a.2.2.2.1) (fun _ => rfl) (fun _ h => h.2.2.2.1)
theorem dec_acts : Dec enc Try.prog w 52 (fun l : List Ac => [T.sl false (l.map acT)]) (fun l => l.length ≤ maxLen ∧ ∀ a ∈ l, a.cmd.length ≤ maxLen) :=
  dec_slice (g := acT) (e := 58) (k := 4) (by rfl) (by rfl) (by omega) dec_ac (fun _ => .inl rfl)
theorem dec_en : Dec enc Try.prog w 37 (fun a : En => [ei a.term, ei a.conf, es a.cmd]) (fun a => a.cmd.length ≤ maxLen) :=
  Dec.map (dec_struct (by rfl) (by rfl) (decf_cons (k := 1) (by rfl) (by rfl) dec_i (decf_cons (k := 1) (by rfl) (by rfl) dec_i (decf_cons (k := 1) (by rfl) (by rfl) dec_s decf_nil)))) (fun a => En.mk a.1 a.2.1 a.2.2.1) (fun _ => rfl) (fun _ h => h.2.2.1)
theorem dec_ens : Dec enc Try.prog w 26 (fun l : List En => [eens l]) (fun l => l.length ≤ maxLen) :=
  (dec_slice (g := een) (e := 37) (k := 3) (by rfl) (by rfl) (by omega) dec_en (fun _ => .inl rfl)).imp fun _ h => h.1
theorem dec_msg : Dec enc Try.prog w 40 (fun m : Ms => msC m (eens m.entries)) (fun m => m.entries.length ≤ maxLen ∧ m.snap.length ≤ maxLen) :=
  Dec.map (dec_struct (by rfl) (by rfl) (decf_cons (k := 1) (by rfl) (by rfl) dec_i (decf_cons (k := 1) (by rfl) (by rfl) dec_i (decf_cons (k := 1) (by rfl) (by rfl) dec_i (decf_cons (k := 1) (by rfl) (by rfl) dec_i (decf_cons (k := 1) (by rfl) (by rfl) dec_i (decf_cons (k := 1) (by rfl) (by rfl) dec_i
    (decf_cons (k := 1) (by rfl) (by rfl) dec_i (decf_cons (k := 1) (by rfl) (by rfl) dec_i (decf_cons (k := 1) (by rfl) (by rfl) dec_b (decf_cons (k := 1) (by rfl) (by rfl) dec_ens (decf_cons (k := 1) (by rfl) (by rfl) dec_s decf_nil))))))))))))
    (fun a => Ms.mk a.1 a.2.1 a.2.2.1 a.2.2.2.1 a.2.2.2.2.1 a.2.2.2.2.2.1 a.2.2.2.2.2.2.1 a.2.2.2.2.2.2.2.1 a.2.2.2.2.2.2.2.2.1 a.2.2.2.2.2.2.2.2.2.1 a.2.2.2.2.2.2.2.2.2.2.1) (fun _ => rfl) (fun _ h => ⟨h.2.2.2.2.2.2.2.2.2.1, h.2.2.2.2.2.2.2.2.2.2.1⟩)
end
end Go.Proofs.Ytppaabahbjgihaa
