/-
  What stands often, named once: a name's default says how it is shown.
-/
set_option maxRecDepth 16000
set_option maxHeartbeats 8000000
set_option linter.all false
namespace Go.Cap
theorem zM {P : Prop} (h : P := by ((repeat (apply LeL.cons; (first | exact Le.refl _ | exact Le.nil _ | exact Le.full _ _ | exact Le.any _ | (apply Le.agg; (repeat (apply LeL.cons; (first | exact Le.refl _ | exact Le.nil _ | exact Le.full _ _ | exact Le.any _))); exact LeL.nil) | (apply Le.tup; (repeat (apply LeL.cons; (first | exact Le.refl _ | exact Le.nil _ | exact Le.full _ _ | exact Le.any _ | (apply Le.agg; (repeat (apply LeL.cons; (first | exact Le.refl _ | exact Le.nil _ | exact Le.full _ _ | exact Le.any _))); exact LeL.nil)))); exact LeL.nil)))); exact LeL.nil)) : P := h
theorem zL {P : Prop} (h : P := by (first | exact Le.refl _ | exact Le.nil _ | exact Le.full _ _ | exact Le.any _ | (apply Le.agg; (repeat (apply LeL.cons; (first | exact Le.refl _ | exact Le.nil _ | exact Le.full _ _ | exact Le.any _))); exact LeL.nil) | (apply Le.tup; (repeat (apply LeL.cons; (first | exact Le.refl _ | exact Le.nil _ | exact Le.full _ _ | exact Le.any _ | (apply Le.agg; (repeat (apply LeL.cons; (first | exact Le.refl _ | exact Le.nil _ | exact Le.full _ _ | exact Le.any _))); exact LeL.nil)))); exact LeL.nil))) : P := h
theorem zrs {P : Prop} (h : P := by (repeat (first | exact AU | (apply AT; (focus ((repeat (apply gS; rfl)); exact gZ))) | (apply O4; (focus ((repeat (apply gS; rfl)); exact gZ)); (focus (repeat (first | exact hZ | apply hS | apply hA))); (focus ((repeat (apply Xg.skip)); (repeat (apply Xg.cons)); exact Xg.nil _))) | (apply Gi; (focus ((repeat (apply gS; rfl)); exact gZ)); (focus (repeat (first | exact hZ | apply hS | apply hA))); (focus rfl))))) : P := h
theorem zo {P : Prop} (h : P := by (first | omega | (simp only [List.length_map, List.length_replicate, List.length_append, List.length_cons, List.length_nil, List.length_take, List.length_drop, Int.toNat_natCast]; omega) | (simp only [List.length_map, List.length_replicate, List.length_append, List.length_cons, List.length_nil, List.length_take, List.length_drop, Int.toNat_natCast] at *; omega))) : P := h
theorem zpv {P : Prop} (h : P := by (repeat (apply Nb; focus (first | ((repeat (apply eS; rfl)); exact eZ) | exact Mw | exact LD | exact Mv | exact EG | exact EH | exact EJ | exact EI | exact LB | exact LA | exact LC))); exact Hd) : P := h
theorem zq {P : Prop} (h : P := by (repeat (apply Na; focus (first | ((repeat (apply eS; rfl)); exact eZ) | exact Mw | exact LD | exact Mv | exact EG | exact EH | exact EJ | exact EI | exact LB | exact LA | exact LC))); exact Hb) : P := h
theorem ze {P : Prop} (h : P := by (repeat (apply Qu; focus (first | ((repeat (apply eS; rfl)); exact eZ) | exact Mw | exact LD | exact Mv | exact EG | exact EH | exact EJ | exact EI | exact LB | exact LA | exact LC))); exact Xh) : P := h
theorem zl {P : Prop} (h : P := by first | ((repeat (apply eS; rfl)); exact eZ) | exact Mw | exact LD | exact Mv | exact EG | exact EH | exact EJ | exact EI | exact LB | exact LA | exact LC) : P := h
theorem zd {P : Prop} (h : P := by (repeat (first | exact trivial | (apply And.intro; focus (intro hb; first | exact trivial | exact noB hb rfl | (repeat (first | exact hZ | apply hS | apply hA))))))) : P := h
theorem zf {P : Prop} (h : P := by (repeat (first | exact Rl | (apply Rm; intro _; rfl) | apply MY | apply GT | apply GU | (apply GV; rfl)))) : P := h
theorem zk {P : Prop} (h : P := by (repeat (first | exact C7 | (apply C8; intro _; rfl) | apply Ew | apply Rh | apply Ri | (apply Rj; rfl)))) : P := h
theorem zt {P : Prop} (h : P := by ((repeat (apply Xg.skip)); (repeat (apply Xg.cons)); exact Xg.nil _)) : P := h
theorem zy {P : Prop} (h : P := by ((repeat (apply Zc.skip)); (repeat (apply Zc.cons)); exact Zc.nil _)) : P := h
theorem zU {P : Prop} (h : P := by intro hg; first | ((repeat (apply eS; rfl)); exact eZ) | exact u_ hg) : P := h
theorem zm {P : Prop} (h : P := by (repeat (first | exact hZ | apply hS | apply hA))) : P := h
theorem zr {P : Prop} (h : P := by (repeat (first | exact rZ | apply rS | apply rA))) : P := h
theorem zG {P : Prop} (h : P := by (repeat (apply gS; rfl)); exact gZ) : P := h
theorem zC {Q P : Prop} (q : Q) (h : Q → P := by intro q; (repeat (first | apply cn | apply cq | apply cb | apply ck | apply cl | apply cx)); exact q) : P := h q
theorem zR {Q P : Prop} (q : Q) (h : Q → P := by intro q; (apply YW; (try simp only [YS, Ze, Z5, Wx, Wy])); exact q) : P := h q
theorem zE {Q P : Prop} (q : Q) (h : Q → P := by intro q; (apply YW; (try simp only [YS, Ze, Z5, Wx, Wy]); first | refine rt ?_ | refine rn ?_); exact q) : P := h q
theorem zD {Q P : Prop} (q : Q) (h : Q → P := by intro q; (apply Exists.intro; apply And.intro; (focus (repeat (first | exact Yf.nil | apply Yf.dropL rfl | apply Yf.keep)))); exact q) : P := h q
end Go.Cap
