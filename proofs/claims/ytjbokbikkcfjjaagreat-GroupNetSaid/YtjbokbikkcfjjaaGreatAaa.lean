/-
  What stands often, named once: a name's default says how it is shown.
-/
set_option maxRecDepth 16000
set_option maxHeartbeats 8000000
set_option linter.all false
namespace Go.Cap
theorem zM {P : Prop} (h : P := by ((repeat (apply LeL.cons; (first | exact Le.refl _ | exact Le.nil _ | exact Le.full _ _ | exact Le.any _ | (apply Le.agg; (repeat (apply LeL.cons; (first | exact Le.refl _ | exact Le.nil _ | exact Le.full _ _ | exact Le.any _))); exact LeL.nil) | (apply Le.tup; (repeat (apply LeL.cons; (first | exact Le.refl _ | exact Le.nil _ | exact Le.full _ _ | exact Le.any _ | (apply Le.agg; (repeat (apply LeL.cons; (first | exact Le.refl _ | exact Le.nil _ | exact Le.full _ _ | exact Le.any _))); exact LeL.nil)))); exact LeL.nil)))); exact LeL.nil)) : P := h
theorem zL {P : Prop} (h : P := by (first | exact Le.refl _ | exact Le.nil _ | exact Le.full _ _ | exact Le.any _ | (apply Le.agg; (repeat (apply LeL.cons; (first | exact Le.refl _ | exact Le.nil _ | exact Le.full _ _ | exact Le.any _))); exact LeL.nil) | (apply Le.tup; (repeat (apply LeL.cons; (first | exact Le.refl _ | exact Le.nil _ | exact Le.full _ _ | exact Le.any _ | (apply Le.agg; (repeat (apply LeL.cons; (first | exact Le.refl _ | exact Le.nil _ | exact Le.full _ _ | exact Le.any _))); exact LeL.nil)))); exact LeL.nil))) : P := h
theorem zrs {P : Prop} (h : P := by (repeat (first | exact Ou | (apply Ot; (focus ((repeat (apply gS; rfl)); exact gZ))) | (apply M9; (focus ((repeat (apply gS; rfl)); exact gZ)); (focus (repeat (first | exact hZ | apply hS | apply hA))); (focus ((repeat (apply Xe.skip)); (repeat (apply Xe.cons)); exact Xe.nil _))) | (apply LX; (focus ((repeat (apply gS; rfl)); exact gZ)); (focus (repeat (first | exact hZ | apply hS | apply hA))); (focus rfl))))) : P := h
theorem zo {P : Prop} (h : P := by (first | omega | (simp only [List.length_map, List.length_replicate, List.length_append, List.length_cons, List.length_nil, List.length_take, List.length_drop, Int.toNat_natCast]; omega) | (simp only [List.length_map, List.length_replicate, List.length_append, List.length_cons, List.length_nil, List.length_take, List.length_drop, Int.toNat_natCast] at *; omega))) : P := h
theorem zpv {P : Prop} (h : P := by (repeat (apply Rm; focus (first | ((repeat (apply eS; rfl)); exact eZ) | exact Uw | exact U4 | exact VG | exact LA | exact LB | exact LD | exact LC | exact U2 | exact U1 | exact U3))); exact IP) : P := h
theorem zq {P : Prop} (h : P := by (repeat (apply Rl; focus (first | ((repeat (apply eS; rfl)); exact eZ) | exact Uw | exact U4 | exact VG | exact LA | exact LB | exact LD | exact LC | exact U2 | exact U1 | exact U3))); exact IN) : P := h
theorem ze {P : Prop} (h : P := by (repeat (apply QK; focus (first | ((repeat (apply eS; rfl)); exact eZ) | exact Uw | exact U4 | exact VG | exact LA | exact LB | exact LD | exact LC | exact U2 | exact U1 | exact U3))); exact Xv) : P := h
theorem zl {P : Prop} (h : P := by first | ((repeat (apply eS; rfl)); exact eZ) | exact Uw | exact U4 | exact VG | exact LA | exact LB | exact LD | exact LC | exact U2 | exact U1 | exact U3) : P := h
theorem zd {P : Prop} (h : P := by (repeat (first | exact trivial | (apply And.intro; focus (intro hb; first | exact trivial | exact noB hb rfl | (repeat (first | exact hZ | apply hS | apply hA))))))) : P := h
theorem zf {P : Prop} (h : P := by (repeat (first | exact Dj | (apply Dl; intro _; rfl) | apply V7 | apply Mk | apply Ml | (apply Mm; rfl)))) : P := h
theorem zk {P : Prop} (h : P := by (repeat (first | exact Ge | (apply Gf; intro _; rfl) | apply Lq | apply Df | apply Dg | (apply Dh; rfl)))) : P := h
theorem zt {P : Prop} (h : P := by ((repeat (apply Xe.skip)); (repeat (apply Xe.cons)); exact Xe.nil _)) : P := h
theorem zy {P : Prop} (h : P := by ((repeat (apply Zx.skip)); (repeat (apply Zx.cons)); exact Zx.nil _)) : P := h
theorem zU {P : Prop} (h : P := by intro hg; first | ((repeat (apply eS; rfl)); exact eZ) | exact u_ hg) : P := h
theorem zm {P : Prop} (h : P := by (repeat (first | exact hZ | apply hS | apply hA))) : P := h
theorem zr {P : Prop} (h : P := by (repeat (first | exact rZ | apply rS | apply rA))) : P := h
theorem zG {P : Prop} (h : P := by (repeat (apply gS; rfl)); exact gZ) : P := h
theorem zC {Q P : Prop} (q : Q) (h : Q → P := by intro q; (repeat (first | apply cn | apply cq | apply cb | apply ck | apply cl | apply cx)); exact q) : P := h q
theorem zR {Q P : Prop} (q : Q) (h : Q → P := by intro q; (apply X8; (try simp only [Ys, YR, Js, MM, MN])); exact q) : P := h q
theorem zE {Q P : Prop} (q : Q) (h : Q → P := by intro q; (apply X8; (try simp only [Ys, YR, Js, MM, MN]); first | refine rt ?_ | refine rn ?_); exact q) : P := h q
theorem zD {Q P : Prop} (q : Q) (h : Q → P := by intro q; (apply Exists.intro; apply And.intro; (focus (repeat (first | exact XA.nil | apply XA.dropL rfl | apply XA.keep)))); exact q) : P := h q
end Go.Cap
