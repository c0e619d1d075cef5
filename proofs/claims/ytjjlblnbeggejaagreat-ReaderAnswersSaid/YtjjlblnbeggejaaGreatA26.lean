/- Contracts, lemmas; no condition. -/
import Derived.Test.YtjjlblnbeggejaaGreatP11
import Derived.KernelRfl
set_option linter.all false
namespace Go.Am
variable {g : Nat → Nat → C} {k Q : S → List O → Prop} {a n0 : Nat} {b : Bool} {p R1 R2 R3 : Prop} {X : Cx} {ts ts' : Ts} {H H' Hc Hc0 : List O} {s s' s0 : S} {f : FuncId} {args args' : List S} {r : Array ResultVar} {dst : Option Tmp} {P : Program} {Γ : Env} {fn : Func} {c : Code}
section
variable {ρ : Nat → Nat} {n : Nat}
theorem Qwq {sh : KS} {z : List Z} {va : Bool} {ks ks' : List Key} {val val' : Key → Nat → C} (h : ∀ k j, k.sh = sh → j < z.length → Am.leF (val k j) (val' k j)) (h4 : ks = ks' := by first | with_reducible rfl | assumption | rfl) : WO ρ n (.mp sh z va ks val) (.mp sh z va ks' val') := WO.mp rfl rfl rfl h4 h
theorem Qwf {e es m m' : Nat} {g' : Nat → Nat → C} (h : ∀ i, i < m → ∀ j, j < es → WC ρ n (g i j) (g' i j)) (hm : m = m' := by first | with_reducible rfl | assumption | (symm; assumption) | omega | (dsimp only; omega) | (rw [Qa _ om om]; first | rfl | omega | (push_cast; omega)) | rfl | (simp <;> fail)) : WO ρ n (.arr e es m g) (.arr e es m' g') := WO.arr hm h
theorem Qwg {k : IntKind} {a b : Int} (h : a = b := by first | with_reducible rfl | assumption | (symm; assumption) | omega | (dsimp only; omega) | (rw [Qa _ om om]; first | rfl | omega | (push_cast; omega)) | rfl | (simp <;> fail)) : WC ρ n (.int k a) (.int k b) := WC.int h
theorem Qwa {a : Bool} (h : a = b := by first | with_reducible rfl | assumption | (symm; assumption) | omega | (dsimp only; omega) | (rw [Qa _ om om]; first | rfl | omega | (push_cast; omega)) | rfl | (simp <;> fail)) : WC ρ n (.bool a) (.bool b) := WC.bool h
theorem Qwd {a b : ByteArray} (h : a = b := by first | with_reducible rfl | assumption | (symm; assumption) | omega | (dsimp only; omega) | (rw [Qa _ om om]; first | rfl | omega | (push_cast; omega)) | rfl | (simp <;> fail)) : WC ρ n (.str a) (.str b) := WC.str h
theorem Qv5 {b es l t l' t' : Nat} {x x' : Bool} (h : a = ρ b := by rfl) (hb : b < n := by exact QxJ rfl) (hl : l = l' := by first | with_reducible rfl | assumption | (symm; assumption) | omega | (dsimp only; omega) | (rw [Qa _ om om]; first | rfl | omega | (push_cast; omega)) | rfl | (simp <;> fail)) (ht : t = t' := by first | with_reducible rfl | assumption | (symm; assumption) | omega | (dsimp only; omega) | (rw [Qa _ om om]; first | rfl | omega | (push_cast; omega)) | rfl | (simp <;> fail)) (hx : x' = true → x = true := by exact fun e => e) : WC ρ n (.sl a es l t x) (.sl b es l' t' x') := WC.sl h hb hl ht hx
theorem Qwo {m id n es l t l' : Nat} {x x' : Bool} (ht : t = n := by first | with_reducible rfl | assumption | (symm; assumption) | omega | (dsimp only; omega) | (rw [Qa _ om om]; first | rfl | omega | (push_cast; omega)) | rfl | (simp <;> fail)) (hl : l = l' := by first | with_reducible rfl | assumption | (symm; assumption) | omega | (dsimp only; omega) | (rw [Qa _ om om]; first | rfl | omega | (push_cast; omega)) | rfl | (simp <;> fail)) (hx : x' = true → x = true ∧ l = t := by first | (intro e; cases e; done) | (intro _; exact ⟨rfl, by first | with_reducible rfl | assumption | (symm; assumption) | omega | (dsimp only; omega) | (rw [Qa _ om om]; first | rfl | omega | (push_cast; omega)) | rfl | (simp <;> fail)⟩)) : WC ρ m (fzC id n g (.sl id es l t x)) (.isl es l' g x') := WC.fz ht hl (fun _ _ _ _ => Am.leF.refl) hx
end
structure Bx (p : Prop) : Prop where
 out : p
theorem leN {b : Nat} (h : Nat.ble a b = true := by rfl) : a ≤ b := QxJ h
theorem le0 {b : Nat} (h : a ≤ b := by first | exact Qxx _ | exact leN) : a ≤ b := h
theorem wb0 (h : p := by (repeat' (first | exact WA.nil | refine WA.cons rfl ?_ ?_ | exact WB.nil | refine WB.cons ?_ ?_ | exact WT.nil | refine WT.cons ?_ ?_ | exact WH.nil | refine WH.cons ?_ ?_ | exact WR.nil | refine WR.cons rfl ?_ ?_ | refine WO.vr ?_ | exact WO.dead | exact Qwm | refine Qwq ?_ | exact Qv9 (fun i j => Qdb _ _ _) | refine Qwf ?_ | exact WS.u | refine WS.c ?_ | refine WS.a ?_ | refine WS.t ?_ | exact WL.nil | refine WL.cons ?_ ?_ | exact WTL.nil | refine WTL.consC ?_ ?_ | refine WTL.consL ?_ ?_ | exact WC.nils | exact WC.nil rfl | exact WC.nilp | refine Qwo | exact WC.ptr rfl (QxJ rfl) | exact WC.mpr rfl (QxJ rfl) | refine Qv5 | refine Qwg | refine WC.int ?_ | refine Qwa | refine WC.bool ?_ | refine Qwd | refine WC.str ?_ | exact WC.imm rfl | refine And.intro ?_ ?_)) <;> fail) : p := h
theorem wb1 (k1 : R1) (h : Bx R1 → p := by intro r1; (repeat' (first | exact WA.nil | refine WA.cons rfl ?_ ?_ | exact WB.nil | refine WB.cons ?_ ?_ | exact WT.nil | refine WT.cons ?_ ?_ | exact WH.nil | refine WH.cons ?_ ?_ | exact WR.nil | refine WR.cons rfl ?_ ?_ | refine WO.vr ?_ | exact WO.dead | exact Qwm | refine Qwq ?_ | exact Qv9 (fun i j => Qdb _ _ _) | refine Qwf ?_ | exact WS.u | refine WS.c ?_ | refine WS.a ?_ | refine WS.t ?_ | exact WL.nil | refine WL.cons ?_ ?_ | exact WTL.nil | refine WTL.consC ?_ ?_ | refine WTL.consL ?_ ?_ | exact WC.nils | exact WC.nil rfl | exact WC.nilp | refine Qwo | exact WC.ptr rfl (QxJ rfl) | exact WC.mpr rfl (QxJ rfl) | refine Qv5 | refine Qwg | refine WC.int ?_ | refine Qwa | refine WC.bool ?_ | refine Qwd | refine WC.str ?_ | exact WC.imm rfl | refine And.intro ?_ ?_ | exact r1.out)) <;> fail) : p := h ⟨k1⟩
theorem wb2 (k1 : R1) (k2 : R2) (h : Bx R1 → Bx R2 → p := by intro r1 r2; (repeat' (first | exact WA.nil | refine WA.cons rfl ?_ ?_ | exact WB.nil | refine WB.cons ?_ ?_ | exact WT.nil | refine WT.cons ?_ ?_ | exact WH.nil | refine WH.cons ?_ ?_ | exact WR.nil | refine WR.cons rfl ?_ ?_ | refine WO.vr ?_ | exact WO.dead | exact Qwm | refine Qwq ?_ | exact Qv9 (fun i j => Qdb _ _ _) | refine Qwf ?_ | exact WS.u | refine WS.c ?_ | refine WS.a ?_ | refine WS.t ?_ | exact WL.nil | refine WL.cons ?_ ?_ | exact WTL.nil | refine WTL.consC ?_ ?_ | refine WTL.consL ?_ ?_ | exact WC.nils | exact WC.nil rfl | exact WC.nilp | refine Qwo | exact WC.ptr rfl (QxJ rfl) | exact WC.mpr rfl (QxJ rfl) | refine Qv5 | refine Qwg | refine WC.int ?_ | refine Qwa | refine WC.bool ?_ | refine Qwd | refine WC.str ?_ | exact WC.imm rfl | refine And.intro ?_ ?_ | exact r1.out | exact r2.out)) <;> fail) : p := h ⟨k1⟩ ⟨k2⟩
theorem wb3 (k1 : R1) (k2 : R2) (k3 : R3) (h : Bx R1 → Bx R2 → Bx R3 → p := by intro r1 r2 r3; (repeat' (first | exact WA.nil | refine WA.cons rfl ?_ ?_ | exact WB.nil | refine WB.cons ?_ ?_ | exact WT.nil | refine WT.cons ?_ ?_ | exact WH.nil | refine WH.cons ?_ ?_ | exact WR.nil | refine WR.cons rfl ?_ ?_ | refine WO.vr ?_ | exact WO.dead | exact Qwm | refine Qwq ?_ | exact Qv9 (fun i j => Qdb _ _ _) | refine Qwf ?_ | exact WS.u | refine WS.c ?_ | refine WS.a ?_ | refine WS.t ?_ | exact WL.nil | refine WL.cons ?_ ?_ | exact WTL.nil | refine WTL.consC ?_ ?_ | refine WTL.consL ?_ ?_ | exact WC.nils | exact WC.nil rfl | exact WC.nilp | refine Qwo | exact WC.ptr rfl (QxJ rfl) | exact WC.mpr rfl (QxJ rfl) | refine Qv5 | refine Qwg | refine WC.int ?_ | refine Qwa | refine WC.bool ?_ | refine Qwd | refine WC.str ?_ | exact WC.imm rfl | refine And.intro ?_ ?_ | exact r1.out | exact r2.out | exact r3.out)) <;> fail) : p := h ⟨k1⟩ ⟨k2⟩ ⟨k3⟩
theorem wb4 {R4 : Prop} (k1 : R1) (k2 : R2) (k3 : R3) (k4 : R4) (h : Bx R1 → Bx R2 → Bx R3 → Bx R4 → p := by intro r1 r2 r3 r4; (repeat' (first | exact WA.nil | refine WA.cons rfl ?_ ?_ | exact WB.nil | refine WB.cons ?_ ?_ | exact WT.nil | refine WT.cons ?_ ?_ | exact WH.nil | refine WH.cons ?_ ?_ | exact WR.nil | refine WR.cons rfl ?_ ?_ | refine WO.vr ?_ | exact WO.dead | exact Qwm | refine Qwq ?_ | exact Qv9 (fun i j => Qdb _ _ _) | refine Qwf ?_ | exact WS.u | refine WS.c ?_ | refine WS.a ?_ | refine WS.t ?_ | exact WL.nil | refine WL.cons ?_ ?_ | exact WTL.nil | refine WTL.consC ?_ ?_ | refine WTL.consL ?_ ?_ | exact WC.nils | exact WC.nil rfl | exact WC.nilp | refine Qwo | exact WC.ptr rfl (QxJ rfl) | exact WC.mpr rfl (QxJ rfl) | refine Qv5 | refine Qwg | refine WC.int ?_ | refine Qwa | refine WC.bool ?_ | refine Qwd | refine WC.str ?_ | exact WC.imm rfl | refine And.intro ?_ ?_ | exact r1.out | exact r2.out | exact r3.out | exact r4.out)) <;> fail) : p := h ⟨k1⟩ ⟨k2⟩ ⟨k3⟩ ⟨k4⟩
theorem QuW (h : WH idN H'.length H H' ∧ WT idN H'.length ts ts' := by exact wb0) (h0 : X.n0 ≤ H'.length := by exact le0) : Mv X ts H ts' H' := Mv.mkW h.1 h.2 h0
theorem QvB (h : WH idN H'.length H H' ∧ WS idN H'.length s s' := by exact wb0) (h0 : n0 ≤ H'.length := by exact le0) : RM n0 s H s' H' := QvG h.1 h.2 h0
theorem QuV (h0 : s.imm = true := by exact rfl) (h : WS idN 0 s s' := by exact wb0) : RM 0 s H s' [] := Qvj h0 h
theorem Qvm (k1 : R1) (h : Bx R1 → WH idN H'.length H H' ∧ WT idN H'.length ts ts' := by intro r1; exact wb1 r1.out) (h0 : X.n0 ≤ H'.length := by exact le0) : Mv X ts H ts' H' := Mv.mkW (h ⟨k1⟩).1 (h ⟨k1⟩).2 h0
theorem QvN (k1 : R1) (h : Bx R1 → WH idN H'.length H H' ∧ WS idN H'.length s s' := by intro r1; exact wb1 r1.out) (h0 : n0 ≤ H'.length := by exact le0) : RM n0 s H s' H' := QvG (h ⟨k1⟩).1 (h ⟨k1⟩).2 h0
theorem Qv8 (k1 : R1) (h0 : s.imm = true := by exact rfl) (h : Bx R1 → WS idN 0 s s' := by intro r1; exact wb1 r1.out) : RM 0 s H s' [] := Qvj h0 (h ⟨k1⟩)
theorem Qwy (k1 : R1) (k2 : R2) (h : Bx R1 → Bx R2 → WH idN H'.length H H' ∧ WT idN H'.length ts ts' := by intro r1 r2; exact wb2 r1.out r2.out) (h0 : X.n0 ≤ H'.length := by exact le0) : Mv X ts H ts' H' := Mv.mkW (h ⟨k1⟩ ⟨k2⟩).1 (h ⟨k1⟩ ⟨k2⟩).2 h0
theorem Qxs (k1 : R1) (k2 : R2) (h : Bx R1 → Bx R2 → WH idN H'.length H H' ∧ WS idN H'.length s s' := by intro r1 r2; exact wb2 r1.out r2.out) (h0 : n0 ≤ H'.length := by exact le0) : RM n0 s H s' H' := QvG (h ⟨k1⟩ ⟨k2⟩).1 (h ⟨k1⟩ ⟨k2⟩).2 h0
theorem Qxr (k1 : R1) (k2 : R2) (k3 : R3) (h : Bx R1 → Bx R2 → Bx R3 → WH idN H'.length H H' ∧ WS idN H'.length s s' := by intro r1 r2 r3; exact wb3 r1.out r2.out r3.out) (h0 : n0 ≤ H'.length := by exact le0) : RM n0 s H s' H' := QvG (h ⟨k1⟩ ⟨k2⟩ ⟨k3⟩).1 (h ⟨k1⟩ ⟨k2⟩ ⟨k3⟩).2 h0
theorem QuU {r : S} {k : Ts → List O → Prop} (hb : HasBody X.P f) (hp : PSpec X.P f args' r)
  (hk : Q4 r fun s' => putK X.nt dst s' ts fun ts' => k ts' H) (hr : r.imm = true := by exact rfl) (ha : WA args args' := by exact wb0) : CallN X f args dst ts H k := CallN.pureW hb hp ha hr hk
theorem CallP.auto {r : S} {k : S → Prop} (hb : HasBody P f) (hp : PSpec P f args' r) (hk : k r) (hr : r.imm = true := by exact rfl) (ha : WA args args' := by exact wb0) : CallP P true f args k := CallP.mkW hb hp ha hr hk
theorem QvE {g : Bool} {r : S} {k : S → Prop} (hb : HasBody P f) (hp : g = true → PSpec P f args' r) (hk : k r) (hr : r.imm = true := by exact rfl) (ha : WA args args' := by exact wb0) : CallP P g f args k := QwG hb hp ha hr hk
theorem CallG.auto {g : Bool} {r : S} (hb : HasBody P f) (hp : g = true → PSpec P f args' r) (hk : k r H) (hr : r.imm = true := by exact rfl) (ha : WA args args' := by exact wb0) : CallG P g f args H k := CallG.pureW hb hp ha hr hk
theorem CallN.autoQ {k : Ts → List O → Prop} (rs : List Nat) (hb : HasBody X.P f) (hc : CSpec X.P f args' Hc fun s H' => s = s0 ∧ H' = Hc0)
  (hk : Qat (plug rs H Hc0) fun H1 => Q4 (reS (sg rs H.length) s0) fun s' => putK X.nt dst s' ts fun ts' => k ts' H1) (hr : rs.Nodup := by decide) (h : WR (rho rs) Hc.length H rs Hc := by exact wb0)
  (hd : Qcd Hc = true := by exact rfl) (ha : WB (rho rs) Hc.length args args' := by exact wb0) : CallN X f args dst ts H k := CallN.frameQ rs hb hc hr h hd ha hk
theorem CallG.autoQ {g : Bool} (rs : List Nat) (hb : HasBody P f) (hc : CSpec P f args' Hc fun s H' => s = s0 ∧ H' = Hc0)
  (hk : g = true → Qat (plug rs H Hc0) fun H1 => k (reS (sg rs H.length) s0) H1) (hn : g = false → k s0 H) (hr : rs.Nodup := by decide) (h : WR (rho rs) Hc.length H rs Hc := by exact wb0)
  (hd : Qcd Hc = true := by exact rfl) (ha : WB (rho rs) Hc.length args args' := by exact wb0) : CallG P g f args H k :=
 CallG.br s0 (fun hg => ⟨hb, CSpec.frame hc rs (Qwh hr h) (QbM hd) ha.out fun s Hc' hq => by
  obtain ⟨rfl, rfl⟩ := hq
  have := hk hg
  rwa [QaO] at this⟩) hn
theorem CallE.autoQ (rs : List Nat) (hb : HasBody P f) (hc : CSpec P f args' Hc fun s H' => s = s0 ∧ H' = Hc0)
  (hk : k (reS (sg rs H.length) s0) (plug rs H Hc0)) (hr : rs.Nodup := by decide) (h : WR (rho rs) Hc.length H rs Hc := by exact wb0)
  (hd : Qcd Hc = true := by exact rfl) (ha : WB (rho rs) Hc.length args args' := by exact wb0) (hrs : rs.all (memI args) = true := by exact rfl) : CallE P f args H k := CallE.frameQ rs hb hc hr h hd ha hrs hk
class BrD (b : Bool) (p q : outParam Prop) : Prop where
 yes : b = true → p
 no : b = false → q
class BrC (b : Bool) (p q : outParam Prop) : Prop where
 yes : b = true → p
 no : b = false → q
instance (priority := low) BrC.any {b : Bool} : BrC b (b = true) (b = false) := ⟨id, id⟩
instance BrC.ofD {b : Bool} {p q : Prop} [i : BrD b p q] : BrC b p q := ⟨i.yes, i.no⟩
instance BrD.lt {a b : Int} : BrD (decide (a < b)) (a < b) (b ≤ a) := ⟨fun e => by simpa using e, fun e => by simpa using e⟩
instance BrD.le {a b : Int} : BrD (decide (a ≤ b)) (a ≤ b) (b < a) := ⟨fun e => by simpa using e, fun e => by simpa using e⟩
instance BrD.eq {a b : Int} : BrD (a == b) (a = b) (a ≠ b) := ⟨fun e => by simpa using e, fun e => by simpa using e⟩
instance BrD.ne {a b : Int} : BrD (a != b) (a ≠ b) (a = b) := ⟨fun e => by simpa using e, fun e => by simpa using e⟩
instance BrD.not {b : Bool} : BrD (!b) (b = false) (b = true) := ⟨fun e => by simpa using e, fun e => by simpa using e⟩
theorem Qu9 {q x y : Prop} [i : BrD b p q] (h : p → x) (h' : q → y) : Br b x y := Br.mk (fun e => h (i.yes e)) (fun e => h' (i.no e))
theorem Br.of {q x y : Prop} [i : BrC b p q] (h : p → x) (h' : q → y) : Br b x y := Br.mk (fun e => h (i.yes e)) (fun e => h' (i.no e))
theorem Nd {k : Prop} (hk : k) (h : p := by first | omega | (dsimp only; omega) | (simp <;> fail) | decide | (intro _h; first | omega | decide | (simp <;> fail)) | (simp_all <;> fail) | (intro _h; simp_all; done) | (simp_all; omega)) : Need p k := ⟨h, hk⟩
theorem Hv {k : Prop} (h : p → k) : Have p k := ⟨h⟩
theorem Go0 {P  Q : Prop} (k : Q) (h : Bx Q → P := by intro r; (conv=>whnf); (repeat' (refine Nd ?_;conv=>whnf)); (fail_if_success refine Hv fun _ => ?_); exact r.out ) : P := h ⟨k⟩
theorem Go1 {P p1 Q : Prop} (k : p1 → Q) (h : Bx (p1 → Q) → P := by intro r; (conv=>whnf); (repeat' (refine Nd ?_;conv=>whnf)); refine Hv fun h1 => ?_; (conv=>whnf); (repeat' (refine Nd ?_;conv=>whnf)); (fail_if_success refine Hv fun _ => ?_); exact r.out h1) : P := h ⟨k⟩
theorem Go2 {P p1 p2 Q : Prop} (k : p1 → p2 → Q) (h : Bx (p1 → p2 → Q) → P := by intro r; (conv=>whnf); (repeat' (refine Nd ?_;conv=>whnf)); refine Hv fun h1 => ?_; (conv=>whnf); (repeat' (refine Nd ?_;conv=>whnf)); refine Hv fun h2 => ?_; (conv=>whnf); (repeat' (refine Nd ?_;conv=>whnf)); (fail_if_success refine Hv fun _ => ?_); exact r.out h1 h2) : P := h ⟨k⟩
theorem ov (hΓ : Qw P Γ) (hf : P.funcs[f]? = some fn) (nt n0 : Nat) (rs : List ResultVar)
  (hnt : fn.ntmps = nt) (hrs : fn.results = r) (h : Qco 0 args fun ts => vc ⟨P, Γ, nt, n0⟩ c ts H (retK Γ rs Q)) (hb : fn.body = some c := by rfl) (hn0 : H.length = n0 := by rfl) (hr : r.toList = rs := by rfl) (hn : Nat.ble args.length nt = true := by rfl) : CSpec P f args H Q :=
 QwW hΓ hf hb nt n0 rs hnt hn0 (by rw [hrs]; exact hr) hn h
theorem ov0 (hΓ : Qw P Γ) (hf : P.funcs[f]? = some fn) {R : Prop} (nt n0 : Nat) (rs : List ResultVar)
  (hnt : fn.ntmps = nt) (hrs : fn.results = r) (k : R) (hb : fn.body = some c := by rfl) (hn0 : H.length = n0 := by rfl) (hr : r.toList = rs := by rfl) (hn : Nat.ble args.length nt = true := by rfl) (h : Bx R → Qco 0 args fun ts => vc ⟨P, Γ, nt, n0⟩ c ts H (retK Γ rs Q) := by intro r; exact Go0 r.out) : CSpec P f args H Q :=
 ov hΓ hf nt n0 rs hnt hrs (h ⟨k⟩) hb hn0 hr hn
theorem hB (hf : P.funcs[f]? = some fn) (h : fn.body.isSome = true := by rfl) (hn : (fn.name == "runtime.NumGoroutine") = false := by kernel_rfl) : HasBody P f := ⟨⟨fn, hf, h, hn⟩⟩
end Go.Am
