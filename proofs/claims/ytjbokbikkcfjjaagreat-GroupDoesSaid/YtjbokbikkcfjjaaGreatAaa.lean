/-
  What stands often, named once: a name's default says how it is shown.
-/
set_option maxRecDepth 16000
set_option maxHeartbeats 8000000
set_option linter.all false
namespace Go.Cap
theorem zM {P : Prop} (h : P := by ((repeat (apply LeL.cons; (first | exact Le.refl _ | exact Le.nil _ | exact Le.full _ _ | exact Le.any _ | (apply Le.agg; (repeat (apply LeL.cons; (first | exact Le.refl _ | exact Le.nil _ | exact Le.full _ _ | exact Le.any _))); exact LeL.nil) | (apply Le.tup; (repeat (apply LeL.cons; (first | exact Le.refl _ | exact Le.nil _ | exact Le.full _ _ | exact Le.any _ | (apply Le.agg; (repeat (apply LeL.cons; (first | exact Le.refl _ | exact Le.nil _ | exact Le.full _ _ | exact Le.any _))); exact LeL.nil)))); exact LeL.nil)))); exact LeL.nil)) : P := h
theorem zL {P : Prop} (h : P := by (first | exact Le.refl _ | exact Le.nil _ | exact Le.full _ _ | exact Le.any _ | (apply Le.agg; (repeat (apply LeL.cons; (first | exact Le.refl _ | exact Le.nil _ | exact Le.full _ _ | exact Le.any _))); exact LeL.nil) | (apply Le.tup; (repeat (apply LeL.cons; (first | exact Le.refl _ | exact Le.nil _ | exact Le.full _ _ | exact Le.any _ | (apply Le.agg; (repeat (apply LeL.cons; (first | exact Le.refl _ | exact Le.nil _ | exact Le.full _ _ | exact Le.any _))); exact LeL.nil)))); exact LeL.nil))) : P := h
theorem zrs {P : Prop} (h : P := by (repeat (first | exact OQ | (apply OP; (focus ((repeat (apply gS; rfl)); exact gZ))) | (apply De; (focus ((repeat (apply gS; rfl)); exact gZ)); (focus (repeat (first | exact hZ | apply hS | apply hA))); (focus ((repeat (apply Xl.skip)); (repeat (apply Xl.cons)); exact Xl.nil _))) | (apply L7; (focus ((repeat (apply gS; rfl)); exact gZ)); (focus (repeat (first | exact hZ | apply hS | apply hA))); (focus rfl))))) : P := h
theorem zo {P : Prop} (h : P := by (first | omega | (simp only [List.length_map, List.length_replicate, List.length_append, List.length_cons, List.length_nil, List.length_take, List.length_drop, Int.toNat_natCast]; omega) | (simp only [List.length_map, List.length_replicate, List.length_append, List.length_cons, List.length_nil, List.length_take, List.length_drop, Int.toNat_natCast] at *; omega))) : P := h
theorem zpv {P : Prop} (h : P := by (repeat (apply RP; focus (first | ((repeat (apply eS; rfl)); exact eZ) | exact JT | exact Ve | exact VQ | exact LH | exact LI | exact LK | exact LJ | exact Vc | exact Vb | exact Vd))); exact Cl) : P := h
theorem zq {P : Prop} (h : P := by (repeat (apply RO; focus (first | ((repeat (apply eS; rfl)); exact eZ) | exact JT | exact Ve | exact VQ | exact LH | exact LI | exact LK | exact LJ | exact Vc | exact Vb | exact Vd))); exact Ck) : P := h
theorem ze {P : Prop} (h : P := by (repeat (apply QQ; focus (first | ((repeat (apply eS; rfl)); exact eZ) | exact JT | exact Ve | exact VQ | exact LH | exact LI | exact LK | exact LJ | exact Vc | exact Vb | exact Vd))); exact XS) : P := h
theorem zl {P : Prop} (h : P := by first | ((repeat (apply eS; rfl)); exact eZ) | exact JT | exact Ve | exact VQ | exact LH | exact LI | exact LK | exact LJ | exact Vc | exact Vb | exact Vd) : P := h
theorem zd {P : Prop} (h : P := by (repeat (first | exact trivial | (apply And.intro; focus (intro hb; first | exact trivial | exact noB hb rfl | (repeat (first | exact hZ | apply hS | apply hA))))))) : P := h
theorem zf {P : Prop} (h : P := by (repeat (first | exact Dt | (apply Du; intro _; rfl) | apply Wi | apply Mr | apply Mt | (apply Mu; rfl)))) : P := h
theorem zk {P : Prop} (h : P := by (repeat (first | exact Gz | (apply GA; intro _; rfl) | apply Lz | apply Dp | apply Dq | (apply Dr; rfl)))) : P := h
theorem zt {P : Prop} (h : P := by ((repeat (apply Xl.skip)); (repeat (apply Xl.cons)); exact Xl.nil _)) : P := h
theorem zy {P : Prop} (h : P := by ((repeat (apply ZA.skip)); (repeat (apply ZA.cons)); exact ZA.nil _)) : P := h
theorem zU {P : Prop} (h : P := by intro hg; first | ((repeat (apply eS; rfl)); exact eZ) | exact u_ hg) : P := h
theorem zm {P : Prop} (h : P := by (repeat (first | exact hZ | apply hS | apply hA))) : P := h
theorem zr {P : Prop} (h : P := by (repeat (first | exact rZ | apply rS | apply rA))) : P := h
theorem zG {P : Prop} (h : P := by (repeat (apply gS; rfl)); exact gZ) : P := h
theorem zC {Q P : Prop} (q : Q) (h : Q → P := by intro q; (repeat (first | apply cn | apply cq | apply cb | apply ck | apply cl | apply cx)); exact q) : P := h q
theorem zR {Q P : Prop} (q : Q) (h : Q → P := by intro q; (apply Yc; (try simp only [Yt, YV, Jw, MR, MS])); exact q) : P := h q
theorem zE {Q P : Prop} (q : Q) (h : Q → P := by intro q; (apply Yc; (try simp only [Yt, YV, Jw, MR, MS]); first | refine rt ?_ | refine rn ?_); exact q) : P := h q
theorem zD {Q P : Prop} (q : Q) (h : Q → P := by intro q; (apply Exists.intro; apply And.intro; (focus (repeat (first | exact XA.nil | apply XA.dropL rfl | apply XA.keep)))); exact q) : P := h q
end Go.Cap
