/- Contracts, lemmas; no condition. -/
import Derived.Test.YtjjlblnbeggejaaGreatP01
import Derived.DeepKeys
set_option linter.all false
section
namespace Go.Am
variable {c : C} {v : Value} {z : List Z} {va : Bool}
def C.imm : C → Bool
 | .ptr .. => false
 | .ep .. => false
 | .sl .. => false
 | .mpr _ => false
 | .fn _ n _ => Nat.beq n 0
 | _ => true
theorem Qcn {F : Mem} {H : List O} {μ : Nat → Value} (hc : c.imm = true) (h : RepC F H μ c v) : RepF F c v := by
 cases c with
 | ptr => cases hc
 | ep => cases hc
 | sl => cases hc
 | mpr => cases hc
 | fn f n g =>
  have hn : n = 0 := QxD hc
  obtain ⟨cs, h1, h2, _⟩ := h
  exact ⟨cs, h1, h2, fun j hj => by omega⟩
 | _ => exact h
theorem Qde {α : Type} {p : α → Bool} {l : List α} (h : l.all p = true) {j : Nat} {x : α} (hx : getL l j = some x) : p x = true := by
 rw [Qc] at hx
 exact Qx2.1 h x (Qx8 hx)
def memK (ks : List Key) (k : Key) : Bool := decide (k ∈ ks)
theorem memK_iff {ks : List Key} {k : Key} : memK ks k = true ↔ k ∈ ks := by simp [memK]
def keyC : C → Option KC
 | .int q n => some (.i q n)
 | .str b => some (.s b)
 | _ => none
def keyL : List C → Option (List KC)
 | [] => some []
 | x :: r => match keyC x with
  | some k => match keyL r with
   | some l => some (k :: l)
   | none => none
  | none => none
def keyS : S → Option Key
 | .c x => match keyC x with
  | some k => some (.c k)
  | none => none
 | .a xs => match keyL xs with
  | some l => some (.a l)
  | none => none
 | _ => none
def shB (sh : KS) (k : Key) : Bool := decide (k.sh = sh)
def QdH (Γ : Env) (t : Nat) : Option (KS × Nat × Nat × TI) :=
 match Γ.at t with
 | some i => match i.td with
  | .map sh k e => match Γ.at e with
   | some te => some (sh, k, e, te)
   | none => none
  | _ => none
 | none => none
theorem Qf4 {P : Program} {Γ : Env} (hΓ : Qw P Γ) {t : Nat} {sh : KS} {k e : Nat} {te : TI} (h : QdH Γ t = some (sh, k, e, te)) : P.underlying t = some (.map k e) ∧ KL P k sh ∧ TIok P e te := by
 unfold QdH at h
 cases h1 : Γ.at t with
 | none => simp [h1] at h
 | some i =>
  simp only [h1] at h
  cases h2 : i.td with
  | map sh' k' e' =>
   simp only [h2] at h
   cases h3 : Γ.at e' with
   | none => simp [h3] at h
   | some te' =>
    simp only [h3, Qxv, QxI] at h
    obtain ⟨rfl, rfl, rfl, rfl⟩ := h
    obtain ⟨d, d1, d2⟩ := (hΓ t i h1).und
    rw [h2] at d2
    cases d with
    | map kk ee =>
     obtain ⟨rfl, rfl, d3⟩ := d2
     exact ⟨d1, d3, hΓ _ _ h3⟩
    | _ => exact d2.elim
  | _ => simp [h2] at h
theorem QoG {F : Mem} {H : List O} {μ : Nat → Value} {k : KC} (h : keyC c = some k) (hv : RepC F H μ c v) : v = k.toV := by
 cases c <;> simp only [keyC, Qxv, reduceCtorEq] at h
 ·subst h; exact hv
 ·subst h; exact hv.1
theorem Qov {F : Mem} {H : List O} {μ : Nat → Value} : ∀ {xs : List C} {l : List KC}, keyL xs = some l → ∀ {vs : List Value}, vs.length = xs.length → (∀ (j : Nat) x, getL xs j = some x → ∃ v, vs[j]? = some v ∧ RepC F H μ x v) → vs = l.map KC.toV
 | [], l, h, vs, hl, _ => by
  simp only [keyL, Qxv] at h
  subst h
  exact List.length_eq_zero_iff.1 hl
 | x :: r, l, h, vs, hl, hv => by
  simp only [keyL] at h
  split at h
  ·rename_i k hk
   split at h
   ·rename_i l' hl'
    cases h
    cases vs with
    | nil => simp at hl
    | cons v vs =>
     obtain ⟨u, u1, u2⟩ := hv 0 x rfl
     simp only [QyF, Qxv] at u1
     subst u1
     have ih := Qov hl' (vs := vs) (by simpa using hl) fun j y hy => by
      obtain ⟨z, z1, z2⟩ := hv (j + 1) y hy
      exact ⟨z, by simpa using z1, z2⟩
     rw [Qyz, QoG hk u2, ih]
   ·cases h
  ·cases h
theorem Qj5 {F : Mem} {H : List O} {μ : Nat → Value} {s : S} {k : Key} (h : keyS s = some k) (hv : RepS F H μ s v) : v = k.toV := by
 cases s with
 | c x =>
  simp only [keyS] at h
  split at h
  ·rename_i q hq; cases h; exact QoG hq hv
  ·cases h
 | a xs =>
  simp only [keyS] at h
  split at h
  ·rename_i l hl
   cases h
   obtain ⟨cs, rfl, h1, h2⟩ := hv
   show Value.agg cs = .agg _
   congr 1
   apply QxV.1
   rw [Qov hl (vs := cs.toList) (by simpa using h1) (fun j x hx => by simpa using h2 j x hx)]
  ·cases h
 | _ => cases h
theorem KC.toV_inj {a b : KC} (h : a.toV = b.toV) : a = b := by
 cases a <;> cases b <;> simp only [KC.toV, Value.int.injEq, Value.string.injEq, reduceCtorEq] at h
 ·obtain ⟨rfl, rfl⟩ := h; rfl
 ·subst h; rfl
theorem QmH : ∀ {l m : List KC}, l.map KC.toV = m.map KC.toV → l = m
 | [], [], _ => rfl
 | [], _ :: _, h => by simp at h
 | _ :: _, [], h => by simp at h
 | x :: r, y :: t, h => by
  simp only [Qyz, List.cons.injEq] at h
  rw [KC.toV_inj h.1, QmH h.2]
theorem Key.toV_inj {a b : Key} (h : a.toV = b.toV) : a = b := by
 cases a with
 | c x => cases b with
  | c y => rw [KC.toV_inj h]
  | a l => cases x <;> cases h
 | a l => cases b with
  | c y => cases y <;> cases h
  | a m =>
   simp only [Key.toV, Value.agg.injEq] at h
   have h := QxK Array.toList h
   simp only at h
   have : l = m := QmH h
   rw [this]
def tabF (f : Nat → C) : Nat → Nat → List C
 | 0, _ => []
 | n + 1, k => f k :: tabF f n (k + 1)
theorem Qmg (f : Nat → C) : ∀ n k, (tabF f n k).length = n
 | 0, _ => rfl
 | n + 1, k => by simp [tabF, Qmg f n]
theorem Qne (f : Nat → C) : ∀ n k j, getL (tabF f n k) j = if j < n then some (f (k + j)) else none
 | 0, _, j => by simp [tabF, getL]
 | n + 1, k, 0 => by simp [tabF, getL]
 | n + 1, k, j + 1 => by
  simp only [tabF, getL, Qne f n (k + 1) j]
  rw [show k + 1 + j = k + (j + 1) by omega]
  simp
def Qqq (te : TI) : Bool := Nat.beq te.zero.length te.size && (te.agg || Nat.beq te.size 1)
theorem Qsz {te : TI} (h : Qqq te = true) : te.zero.length = te.size ∧ (te.agg = false → te.size = 1) := by
 unfold Qqq at h
 rw [QxA, QyA] at h
 refine ⟨QxD h.1, fun e => ?_⟩
 rcases h.2 with h | h
 ·rw [e] at h; cases h
 ·exact QxD h
def mpB (sh : KS) (te : TI) (sh' : KS) (z : List Z) (va : Bool) : Bool := decide (sh' = sh) && decide (z = te.zero) && decide (va = te.agg)
theorem Qml {sh sh' : KS} {te : TI} (h : mpB sh te sh' z va = true) : sh' = sh ∧ z = te.zero ∧ va = te.agg := by
 simp only [mpB, QxA, Qxw] at h
 exact ⟨h.1.1, h.1.2, h.2⟩
def elS (va : Bool) (m : Nat) (f : Nat → C) : C ⊕ List C :=
 match va with
 | true => .inr (tabF f m 0)
 | false => .inl (f 0)
def QlM (va : Bool) (m : Nat) (ks : List Key) (val : Key → Nat → C) (key : Key) (ok : Bool) : S :=
 match ok with
 | true => .t [elS va m (val key), .inl (.bool (memK ks key))]
 | false => match va with
  | true => .a (tabF (val key) m 0)
  | false => .c (val key 0)
theorem RepV.el {F : Mem} {H : List O} {μ : Nat → Value} {m : Nat} (hm : va = false → m = 1) {f : Nat → C} (h : RepV F va m f v) : RepE F H μ (elS va m f) v := by
 obtain ⟨h1, h2, h3, h4⟩ := h
 cases va with
 | true =>
  obtain ⟨a, rfl⟩ := h1 rfl
  refine ⟨a, rfl, by rw [Qmg]; exact h3, fun j x hx => ?_⟩
  rw [Qne] at hx
  split at hx
  ·rename_i hj
   cases hx
   obtain ⟨y, y1, y2⟩ := h4 j hj
   exact ⟨y, y1, by rw [QxX]; exact RepF.toC H μ _ _ y2⟩
  ·cases hx
 | false =>
  obtain ⟨y, y1, y2⟩ := h4 0 (by rw [hm rfl]; omega)
  have : y = v := by
   have ho := h2 rfl
   cases v <;> simp_all [Value.cells, Value.oneCell']
  subst this
  exact RepF.toC H μ _ _ y2
theorem MRep.find {P : Program} {k : Nat} {sh : KS} (hk : KL P k sh) {F : Mem} {z : List Z} {va : Bool} {ks : List Key} {val : Key → Nat → C} {es : List MapEntry} (hr : MRep F sh z va ks val es) (w : World) {x : Key} (hx : x.sh = sh) :
  (memK ks x = false ∧ (Instr.findKey k x.toV es).run P w = .ok Option.none w) ∨ ∃ (j : Nat) (e : MapEntry), memK ks x = true ∧ (Instr.findKey k x.toV es).run P w = .ok (some (j, e.val)) w ∧ es[j]? = some e ∧ ks[j]? = some x ∧ e.key = x.toV ∧ RepV F va z.length (val x) e.val := by
 have hlen : es.length = ks.length := by
  have := QxK List.length hr.keys
  simpa using this
 have kat : ∀ (j : Nat) (e : MapEntry), es[j]? = some e → ∃ y, ks[j]? = some y ∧ e.key = y.toV := by
  intro j e he
  have hj := (QxU.1 he).1
  refine ⟨ks[j]'om, by simp, ?_⟩
  have h1 : (es.map (·.key))[j]? = some e.key := by simp [he]
  rw [hr.keys] at h1
  simpa [Qyl (show j < ks.length by omega)] using h1.symm
 rcases hk.find w x hx es (fun e he => by
  obtain ⟨j, hj⟩ := List.mem_iff_getElem?.1 he
  obtain ⟨y, y1, y2⟩ := kat j e hj
  exact ⟨y, hr.shp y (Qx8 y1), y2⟩) with ⟨h1, h2⟩ | ⟨j, e, h1, h2, h3⟩
 ·refine .inl ⟨?_, h1⟩
  cases hm : memK ks x with
  | false => rfl
  | true =>
   exfalso
   have hin := memK_iff.1 hm
   have : x.toV ∈ es.map (·.key) := by rw [hr.keys]; exact QyJ hin
   obtain ⟨e, e1, e2⟩ := Qyj.1 this
   exact h2 e e1 e2
 ·obtain ⟨y, y1, y2⟩ := kat j e h2
  have : y = x := Key.toV_inj (by rw [← y2]; exact h3)
  subst this
  exact .inr ⟨j, e, memK_iff.2 (Qx8 y1), h1, h2, y1, h3, hr.vals j e y h2 y1⟩
theorem Qt2 {P : Program} {e : Nat} {te : TI} (ht : TIok P e te) (w : World) : ∃ z, (zeroValue e).run P w = .ok z w ∧ z.cells.toList = te.zero.map Z.toV ∧ (te.agg = true → ∃ a, z = .agg a) ∧ (te.agg = false → z.oneCell' = true) := by
 obtain ⟨x, h1, h2, h3, z, h4, h5⟩ := ht.info
 refine ⟨z, ?_, h5, ht.zag x z h1 h4⟩
 simp [zeroValue, typeInfo, h1, h4]
theorem MRep.absent {F : Mem} {sh : KS} {ks : List Key} {val : Key → Nat → C} {es : List MapEntry} (hr : MRep F sh z va ks val es) {x : Key} (hs : x.sh = sh) (hx : memK ks x = false) (h1 : v.cells.toList = z.map Z.toV) (h2 : va = true → ∃ a, v = .agg a) (h3 : va = false → v.oneCell' = true) : RepV F va z.length (val x) v := by
 refine ⟨h2, h3, by rw [← Qx7, h1]; simp, fun j hj => ?_⟩
 obtain ⟨q, q1, q2⟩ := hr.none x hs (fun h => by rw [memK_iff.2 h] at hx; cases hx) j hj
 refine ⟨_, ?_, q2⟩
 rw [← Qyt, h1, Qyx, q1]; rfl
section
variable {P : Program} {Γ : Env} (hΓ : Qw P Γ) {K : Keep} {F : Mem} {H H' : List O} {μ : Nat → Value} {w : World} {t k e : Nat} {sh : KS} {te : TI} {id : Nat} {ks : List Key} {val : Key → Nat → C} {key : Key}
include hΓ
theorem QtZ (hw : HSat K F H μ w) (hm : QdH Γ t = some (sh, k, e, te)) (hg : getL H id = some (.mp sh te.zero te.agg ks val)) {x : Value} (hx : RepC F H μ (.mpr id) x) (hk : key.sh = sh) (h1 : te.agg = false → te.size = 1) (hz : te.zero.length = te.size) (ok : Bool) :
  ∃ r, (Instr.lookup t x key.toV ok).run P w = .ok r w ∧ RepS F H μ (QlM te.agg te.size ks val key ok) r := by
 obtain ⟨hu, hkl, hte⟩ := Qf4 hΓ hm
 obtain ⟨_, b, m1, rfl⟩ := hx
 obtain ⟨b', es, ck, m2, m3, m4, -⟩ := hw.ob id _ hg
 rw [m1] at m2
 cases m2
 have hrun : ∀ (v : Value) (q : Bool), RepV F te.agg te.size (val key) v → memK ks key = q → RepS F H μ (QlM te.agg te.size ks val key ok) (if ok = true then .tuple #[v, .bool q] else v) := by
  intro v q hv hq
  have hel := hv.el (H := H) (μ := μ) h1
  cases ok with
  | true =>
   refine ⟨_, rfl, rfl, fun j y hj => ?_⟩
   match j with
   | 0 => simp only [getL, Qxv] at hj; subst hj; exact ⟨v, rfl, hel⟩
   | 1 => simp only [getL, Qxv] at hj; subst hj; exact ⟨.bool q, rfl, by rw [hq]; rfl⟩
   | j + 2 => simp [getL] at hj
  | false =>
   simp only [QlM, Qxu (show ¬ (false = true) by simp)]
   cases ha : te.agg with
   | true => rw [ha] at hel; exact hel
   | false => rw [ha] at hel; exact hel
 rcases m4.find hkl w hk with ⟨q1, q2⟩ | ⟨j, en, q1, q2, q3, q4, q5, q6⟩
 ·obtain ⟨z, z1, z2, z3, z4⟩ := Qt2 hte w
  have hv := m4.absent hk q1 z2 z3 z4
  rw [hz] at hv
  refine ⟨_, ?_, hrun z false hv q1⟩
  unfold Instr.lookup
  rw [Qg (run_underlying hu w)]
  simp only
  rw [Qg (MapKept.run_getObj_map m3)]
  simp only
  rw [Qg (show (pure es : Sem (Array MapEntry)).run P w = .ok es w from rfl), Qg (hkl.check w _ key hk), Qg q2]
  simp only
  rw [Qg z1]
  rfl
 ·rw [hz] at q6
  refine ⟨_, ?_, hrun en.val true q6 q1⟩
  unfold Instr.lookup
  rw [Qg (run_underlying hu w)]
  simp only
  rw [Qg (MapKept.run_getObj_map m3)]
  simp only
  rw [Qg (show (pure es : Sem (Array MapEntry)).run P w = .ok es w from rfl), Qg (hkl.check w _ key hk), Qg q2]
  rfl
end
end Go.Am
end

section
namespace Go.Am
variable {P : Program} {w : World} {t o : Nat} {xs : Array Value} {zs : List Z} {F : Mem} {H : List O} {μ : Nat → Value} {x : C} {r : Bool} {v u : Value} {Γ : Env}
def QbF : TypeDesc → Value → Prop
 | .bool, .bool _ => True
 | .int k, .int k' _ => k' = k
 | .string, .string _ => True
 | _, _ => False
theorem Qhu {t : TypeId} {d : TypeDesc} (hd : P.underlying t = some d) {a b : Value} (ha : QbF d a) (hb : QbF d b) (n : Nat) : ∃ r : Bool, (Op.equalIn (n + 1) t a b).run P w = .ok r w ∧ (r = true ↔ a = b) := by
 unfold Op.equalIn
 rw [Qg (run_underlying hd w)]
 cases d <;> cases a <;> simp only [QbF] at ha <;> cases b <;> simp only [QbF] at hb
 ·rename_i x y
  exact ⟨x == y, rfl, by simp⟩
 ·rename_i q k x k' y
  subst ha hb
  exact ⟨x == y, by simp, by simp⟩
 ·rename_i x y
  exact ⟨x == y, rfl, by simp [MapKept.bytes_beq]⟩
structure Kin (zs : List Z) (xs ys : Array Value) : Prop where
 sx : xs.size = zs.length
 sy : ys.size = zs.length
 at' : ∀ (j : Nat) z, zs[j]? = some z → ∃ a b, xs[j]? = some a ∧ ys[j]? = some b ∧ ∀ d, QfW d z = true → QbF d a ∧ QbF d b
theorem Qfn {n j : Nat} (h : o + n ≤ xs.size) (hj : j < n) : (xs.extract o (o + n))[j]? = xs[o + j]? := by
 rw [Array.getElem?_extract]
 simp
 omega
theorem Kin.sub {ys : Array Value} (h : Kin zs xs ys) {n : Nat} (hn : ((zs.drop o).take n).length = n) : Kin ((zs.drop o).take n) (xs.extract o (o + n)) (ys.extract o (o + n)) := by
 have h1 := h.sx
 have h2 := h.sy
 by_cases c : n = 0
 ·subst c
  exact ⟨by simp; omega, by simp; omega, fun j z hj => by simp at hj⟩
 have : o + n ≤ zs.length := by simp at hn; omega
 refine ⟨by rw [hn]; simp; omega, by rw [hn]; simp; omega, fun j z hj => ?_⟩
 have hjn : j < n := by
  have := (QxU.1 hj).1
  omega
 rw [Qfn om hjn, Qfn om hjn]
 rw [Qye, Qxt hjn, QyE] at hj
 exact h.at' _ z hj
def pv (P : Program) (t : Nat) (cs : Array Value) : Value := match P.underlying t with
 | some (.struct _) => .agg cs
 | _ => cs.getD 0 undef
theorem QoV {P : Program} : ∀ {fs : List Field} {o n : Nat}, QeV P fs o n = true → o ≤ n ∧ ∀ f ∈ fs, o ≤ f.offset ∧ f.offset + P.cellsOf f.type ≤ n
 | [], o, n, h => by
  simp only [QeV, Qxw] at h
  exact ⟨om, fun f hf => absurd hf (by simp)⟩
 | f :: r, o, n, h => by
  simp only [QeV, QxA, Qxw] at h
  obtain ⟨h1, h2⟩ := QoV h.2
  refine ⟨om, fun g hg => ?_⟩
  rcases Qyf.1 hg with rfl | hg
  ·exact ⟨om, om⟩
  ·have := h2 g hg; exact ⟨om, this.2⟩
theorem Qnj {P : Program} {p : Nat → Prop} : ∀ {fs : List Field} {o n : Nat}, QeV P fs o n = true → (∀ f ∈ fs, ∀ j, j < P.cellsOf f.type → p (f.offset + j)) → ∀ i, o ≤ i → i < n → p i
 | [], o, n, h, _, i, h1, h2 => by
  simp only [QeV, Qxw] at h
  omega
 | f :: r, o, n, h, hp, i, h1, h2 => by
  simp only [QeV, QxA, Qxw] at h
  by_cases c : i < o + P.cellsOf f.type
  ·have := hp f (by simp) (i - o) om
   rw [h.1, show o + (i - o) = i by omega] at this
   exact this
  ·exact Qnj h.2 (fun g hg => hp g (by simp [hg])) i om h2
theorem QhC {d : Nat} (h : QdG P d t zs = true) (hn : zs.length = P.cellsOf t) (ho : o + P.cellsOf t ≤ xs.size) : (part t xs o).run P w = .ok (pv P t (xs.extract o (o + P.cellsOf t))) w := by
 cases d with
 | zero => simp [QdG] at h
 | succ d =>
  simp only [QdG] at h
  split at h
  ·rename_i fs hu
   obtain ⟨i, hi⟩ := info_of_underlying hu
   simp [part, isAgg, run_underlying hu, run_sizeOf w hi, pv, hu]
  ·rename_i k hk hu
   rw [QxA] at h
   have h1 : zs.length = 1 := by
    have := h.2
    split at this
    ·rfl
    ·cases this
   obtain ⟨v, hv⟩ : ∃ v, xs[o]? = some v := ⟨xs[o]'om, by simp⟩
   rw [run_part_plain w h.1 hv]
   congr 1
   unfold pv
   rw [hu]
   split
   ·rename_i fs he; exact absurd (Qyv he) (by
     intro e; subst e
     have := h.1
     simp [Program.plainKey, hu] at this)
   ·rw [← hn, h1]
    have := Qfn (xs := xs) (o := o) (n := 1) (j := 0) om om
    rw [show o + 0 = o from rfl, hv] at this
    rw [QxQ, this]; rfl
  ·cases h
theorem QeO {P : Program} {w : World} (N : Nat) (xs ys : Array Value) : ∀ fs : List Field,
  (∀ f ∈ fs, f.name ≠ "_" ∧ (part f.type xs f.offset).run P w = .ok (pv P f.type (xs.extract f.offset (f.offset + P.cellsOf f.type))) w ∧ (part f.type ys f.offset).run P w = .ok (pv P f.type (ys.extract f.offset (f.offset + P.cellsOf f.type))) w ∧
   ∃ r : Bool, (Op.equalIn N f.type (pv P f.type (xs.extract f.offset (f.offset + P.cellsOf f.type))) (pv P f.type (ys.extract f.offset (f.offset + P.cellsOf f.type)))).run P w = .ok r w ∧ (r = true ↔ xs.extract f.offset (f.offset + P.cellsOf f.type) = ys.extract f.offset (f.offset + P.cellsOf f.type))) →
  ∃ r : Bool, (Op.eqFields N xs ys fs).run P w = .ok r w ∧ (r = true ↔ ∀ f ∈ fs, xs.extract f.offset (f.offset + P.cellsOf f.type) = ys.extract f.offset (f.offset + P.cellsOf f.type))
 | [], _ => ⟨true, rfl, by simp⟩
 | f :: fs, h => by
  obtain ⟨h1, h2, h3, r, r1, r2⟩ := h f (by simp)
  obtain ⟨r', q1, q2⟩ := QeO N xs ys fs fun g hg => h g (by simp [hg])
  simp only [Op.eqFields, Qxt h1]
  rw [Qg h2, Qg h3, Qg r1]
  cases r with
  | false =>
   refine ⟨false, by simp, ?_⟩
   simp only [List.forall_mem_cons, ← r2]
   simp
  | true =>
   refine ⟨r', by simpa using q1, ?_⟩
   simp only [List.forall_mem_cons, ← r2, q2]
   simp
theorem Qe0 {P : Program} {w : World} : ∀ (d t : Nat) (zs : List Z), QdG P d t zs = true → ∀ (N : Nat) (xs ys : Array Value), Kin zs xs ys → ∃ r : Bool, (Op.equalIn (d + N) t (pv P t xs) (pv P t ys)).run P w = .ok r w ∧ (r = true ↔ xs = ys)
 | 0, _, _, h, _, _, _, _ => by simp [QdG] at h
 | d + 1, t, zs, h, N, xs, ys, hk => by
  simp only [QdG] at h
  split at h
  ·rename_i fs hu
   simp only [QxA, Qyp, Qx2, Qy2, Qxw] at h
   obtain ⟨⟨h1, h2⟩, h3⟩ := h
   have hfs : P.fieldsOf t = fs := by simp [Program.fieldsOf, hu]
   have hx := hk.sx
   have hy := hk.sy
   obtain ⟨_, hin⟩ := QoV h2
   obtain ⟨r, r1, r2⟩ := QeO (P := P) (w := w) (d + N) xs ys fs.toList (fun f hf => by
    obtain ⟨⟨g1, g2⟩, g3⟩ := h3 f hf
    have := (hin f hf).2
    exact ⟨g1, QhC g3 g2 om, QhC g3 g2 om, Qe0 d f.type _ g3 N _ _ (hk.sub g2)⟩)
   refine ⟨r, ?_, ?_⟩
   ·have e : pv P t xs = .agg xs := by simp [pv, hu]
    have e' : pv P t ys = .agg ys := by simp [pv, hu]
    rw [e, e', show d + 1 + N = (d + N) + 1 by omega, run_equalIn_struct w (d + N) t xs ys (by rw [hfs]; exact hu) h1, hfs]
    exact r1
   ·rw [r2]
    constructor
    ·intro hall
     refine QyM fun i => ?_
     by_cases c : i < zs.length
     ·refine Qnj (p := fun i => xs[i]? = ys[i]?) h2 (fun f hf j hj => ?_) i (Qxx _) c
      have := (hin f hf).2
      have e : (xs.extract f.offset (f.offset + P.cellsOf f.type))[j]? = (ys.extract f.offset (f.offset + P.cellsOf f.type))[j]? := by rw [hall f hf]
      rwa [Qfn om hj, Qfn om hj] at e
     ·rw [Qx1 om, Qx1 om]
    ·intro e f _; rw [e]
  ·rename_i k hns hu
   rw [QxA] at h
   have h2 := h.2
   split at h2
   ·rename_i z
    obtain ⟨a, b, a1, b1, ab⟩ := hk.at' 0 z rfl
    obtain ⟨p, q⟩ := ab k h2
    have hx := hk.sx
    have hy := hk.sy
    have np : ∀ cs : Array Value, pv P t cs = cs.getD 0 undef := fun cs => by
     unfold pv
     rw [hu]
     split
     ·rename_i fs he; exact absurd (Qyv he) (fun e => by
       subst e
       have := h.1
       simp [Program.plainKey, hu] at this)
     ·rfl
    have e1 : pv P t xs = a := by rw [np, QxQ, a1]; rfl
    have e2 : pv P t ys = b := by rw [np, QxQ, b1]; rfl
    obtain ⟨r, r1, r2⟩ := Qhu (w := w) hu p q (d + N)
    refine ⟨r, by rw [e1, e2, show d + 1 + N = d + N + 1 by omega]; exact r1, ?_⟩
    rw [r2]
    constructor
    ·intro e
     refine QyM fun i => ?_
     cases i with
     | zero => rw [a1, b1, e]
     | succ i => simp at hx hy; rw [Qx1 om, Qx1 om]
    ·intro e
     rw [e, b1] at a1
     exact (Qyv a1).symm
   ·cases h2
  ·cases h
def eqC : Z → C → C → Option Bool
 | .b, .bool a, .bool b => some (decide (a = b))
 | .i z, .int q a, .int q' b => match decide (q = z) && decide (q' = z) with
  | true => some (decide (a = b))
  | false => none
 | .s, .str a, .str b => some (decide (a = b))
 | _, _, _ => none
def eqL : List Z → List C → List C → Option Bool
 | [], [], [] => some true
 | z :: zs, x :: xs, y :: ys => match eqC z x y with
  | some r => match eqL zs xs ys with
   | some r' => some (r && r')
   | none => none
  | none => none
 | _, _, _ => none
theorem Quh {z : Z} {y : C} (h : eqC z x y = some r) (hv : RepC F H μ x v) (hu : RepC F H μ y u) : (∀ d, QfW d z = true → QbF d v ∧ QbF d u) ∧ (r = true ↔ v = u) := by
 unfold eqC at h
 split at h
 ·cases h
  have hv : v = .bool _ := hv
  have hu : u = .bool _ := hu
  subst hv hu
  exact ⟨fun d hd => by cases d <;> simp_all [QfW, QbF], by simp⟩
 ·split at h
  ·rename_i hq
   simp only [QxA, Qxw] at hq
   obtain ⟨rfl, rfl⟩ := hq
   cases h
   have hv : v = .int _ _ := hv
   have hu : u = .int _ _ := hu
   subst hv hu
   exact ⟨fun d hd => by cases d <;> simp_all [QfW, QbF], by simp⟩
  ·cases h
 ·cases h
  have hv := hv.1
  have hu := hu.1
  subst hv hu
  exact ⟨fun d hd => by cases d <;> simp_all [QfW, QbF], by simp⟩
 ·cases h
theorem QrZ {F : Mem} {H : List O} {μ : Nat → Value} : ∀ {zs : List Z} {xs ys : List C} {r : Bool}, eqL zs xs ys = some r → ∀ {vs us : List Value}, vs.length = xs.length → us.length = ys.length →
  (∀ (j : Nat) x, getL xs j = some x → ∃ v, vs[j]? = some v ∧ RepC F H μ x v) → (∀ (j : Nat) x, getL ys j = some x → ∃ v, us[j]? = some v ∧ RepC F H μ x v) →
  xs.length = zs.length ∧ ys.length = zs.length ∧ (∀ (j : Nat) z, zs[j]? = some z → ∃ a b, vs[j]? = some a ∧ us[j]? = some b ∧ ∀ d, QfW d z = true → QbF d a ∧ QbF d b) ∧ (r = true ↔ vs = us)
 | [], [], [], r, h, vs, us, h1, h2, _, _ => by
  simp only [eqL, Qxv] at h
  subst h
  have : vs = [] := List.length_eq_zero_iff.1 h1
  have : us = [] := List.length_eq_zero_iff.1 h2
  subst vs us
  exact ⟨rfl, rfl, fun j z hz => by simp at hz, by simp⟩
 | z :: zs, x :: xs, y :: ys, r, h, vs, us, h1, h2, h3, h4 => by
  simp only [eqL] at h
  split at h
  ·rename_i r0 hc
   split at h
   ·rename_i r' hr
    cases h
    cases vs with
    | nil => simp at h1
    | cons v vs =>
     cases us with
     | nil => simp at h2
     | cons u us =>
      obtain ⟨v', v1, v2⟩ := h3 0 x rfl
      obtain ⟨u', u1, u2⟩ := h4 0 y rfl
      simp only [QyF, Qxv] at v1 u1
      subst v1 u1
      obtain ⟨c1, c2⟩ := Quh hc v2 u2
      obtain ⟨q1, q2, q3, q4⟩ := QrZ hr (vs := vs) (us := us) (by simpa using h1) (by simpa using h2) (fun j w hw => by
       obtain ⟨a, a1, a2⟩ := h3 (j + 1) w hw
       exact ⟨a, by simpa using a1, a2⟩) (fun j w hw => by
       obtain ⟨a, a1, a2⟩ := h4 (j + 1) w hw
       exact ⟨a, by simpa using a1, a2⟩)
      refine ⟨by simp [q1], by simp [q2], fun j w hw => ?_, by rw [QxA, c2, q4]; simp⟩
      cases j with
      | zero =>
       simp only [QyF, Qxv] at hw
       subst hw
       exact ⟨v, u, rfl, rfl, c1⟩
      | succ j => simpa using q3 j w (by simpa using hw)
   ·cases h
  ·cases h
 | [], [], _ :: _, _, h, _, _, _, _, _, _ => by simp [eqL] at h
 | [], _ :: _, _, _, h, _, _, _, _, _, _ => by simp [eqL] at h
 | _ :: _, [], _, _, h, _, _, _, _, _, _ => by simp [eqL] at h
 | _ :: _, _ :: _, [], _, h, _, _, _, _, _, _ => by simp [eqL] at h
theorem Quf {i : TI} (ht : TIok P t i) (hf : i.flat = true) (hz : i.zero.length = i.size) {xs ys : List C} (h : eqL i.zero xs ys = some r) (hv : RepS F H μ (.a xs) v) (hu : RepS F H μ (.a ys) u) :
  (Op.equal t v u).run P w = .ok r w := by
 obtain ⟨f1, _, fs, f2⟩ := ht.flt hf
 obtain ⟨cs, rfl, v1, v2⟩ := hv
 obtain ⟨ds, rfl, u1, u2⟩ := hu
 obtain ⟨q1, q2, q3, q4⟩ := QrZ h (vs := cs.toList) (us := ds.toList) (by simpa using v1) (by simpa using u1) (fun j x hx => by simpa using v2 j x hx) (fun j x hx => by simpa using u2 j x hx)
 obtain ⟨r', r1, r2⟩ := Qe0 (w := w) 20 t i.zero f1 9980 cs ds ⟨om, om, fun j z hj => by
  obtain ⟨a, b, a1, b1, ab⟩ := q3 j z hj
  exact ⟨a, b, by simpa using a1, by simpa using b1, ab⟩⟩
 have : r' = r := by
  rw [QxW, r2, q4]
  constructor
  ·intro e; rw [e]
  ·intro e; exact QxV.1 e
 rw [← this]
 simpa [pv, f2, Op.equal, show Op.maxDepth = 20 + 9980 from rfl] using r1
def lget (xs : List C) : Nat → C := fun j => match getL xs j with
 | some x => x
 | none => .junk
def Qce (ts : Ts) : List Operand → Option (List C)
 | [] => some []
 | x :: r => match opnd ts x with
  | .c c => match Qce ts r with
   | some l => some (c :: l)
   | none => none
  | _ => none
theorem QkG {F : Mem} {H : List O} {μ : Nat → Value} {ts : Ts} {a : Act} (hT : TSat F H μ ts a.tmps) : ∀ (xs : List Operand) (cs : List C), Qce ts xs = some cs →
  cs.length = xs.length ∧ ∀ (j : Nat) x, getL cs j = some x → ∃ v, (xs.map a.eval)[j]? = some v ∧ RepC F H μ x v
 | [], cs, h => by simp [Qce] at h; subst h; simp [getL]
 | x :: r, cs, h => by
  simp only [Qce] at h
  have hx := Q9 hT x
  cases ho : opnd ts x with
  | c c =>
   cases hr : Qce ts r with
   | none => simp [ho, hr] at h
   | some l =>
    simp only [ho, hr, Qxv] at h
    subst h
    obtain ⟨h1, h2⟩ := QkG hT r l hr
    rw [ho] at hx
    refine ⟨by simp [h1], fun j y hy => ?_⟩
    cases j with
    | zero => simp [getL] at hy; subst hy; exact ⟨_, by simp, hx⟩
    | succ j => simp only [getL] at hy; simpa using h2 j y hy
  | _ => simp [ho] at h
def QjQ (Γ : Env) (t : Nat) : Bool :=
 match Γ.at t with
 | some i => match i.td with
  | .bool => true
  | _ => false
 | none => false
def QcB (Γ : Env) (t : Nat) : Bool :=
 match Γ.at t with
 | some i => match i.td with
  | .str => true
  | _ => false
 | none => false
def QdW (Γ : Env) (t : Nat) : Option IntKind :=
 match Γ.at t with
 | some i => match i.td with
  | .int k => some k
  | _ => none
 | none => none
theorem QpQ (hΓ : Qw P Γ) (h : QjQ Γ t = true) : P.underlying t = some .bool := by
 unfold QjQ at h
 cases h1 : Γ.at t with
 | none => simp [h1] at h
 | some i =>
  obtain ⟨d, h2, h3⟩ := (hΓ t i h1).und
  cases htd : i.td <;> simp [h1, htd] at h
  rw [htd] at h3
  cases d <;> simp [tdOk] at h3
  exact h2
theorem QdN (hΓ : Qw P Γ) (h : QcB Γ t = true) : P.underlying t = some .string := by
 unfold QcB at h
 cases h1 : Γ.at t with
 | none => simp [h1] at h
 | some i =>
  obtain ⟨d, h2, h3⟩ := (hΓ t i h1).und
  cases htd : i.td <;> simp [h1, htd] at h
  rw [htd] at h3
  cases d <;> simp [tdOk] at h3
  exact h2
theorem QeH (hΓ : Qw P Γ) {k : IntKind} (h : QdW Γ t = some k) : P.underlying t = some (.int k) := by
 unfold QdW at h
 cases h1 : Γ.at t with
 | none => simp [h1] at h
 | some i =>
  obtain ⟨d, h2, h3⟩ := (hΓ t i h1).und
  cases htd : i.td <;> simp [h1, htd] at h
  rw [htd] at h3
  cases d <;> simp [tdOk] at h3
  subst h3; subst h
  exact h2
def unC (op : UnOp) (x : C) : Option C :=
 match x with
 | .bool b => match op with
  | .not => some (.bool !b)
  | _ => none
 | .int k n => match op with
  | .neg => some (.int k (k.wrap (0 - n)))
  | .xor => some (.int k (k.wrap (BitVec.ofInt k.bits (if k.signed then -1 else k.max) ^^^ BitVec.ofInt k.bits n).toNat))
  | _ => none
 | _ => none
theorem Qul {op : UnOp} {c : C} (w : World) (h : unC op x = some c) (hx : RepC F H μ x v) :
  ∃ r, (Op.unary op v).run P w = .ok r w ∧ RepC F H μ c r := by
 cases x with
 | bool b =>
  rw [show v = _ from hx]
  cases op <;> simp only [unC, Qxv, reduceCtorEq] at h
  subst h
  exact ⟨_, rfl, rfl⟩
 | int k n =>
  rw [show v = _ from hx]
  cases op <;> simp only [unC, Qxv, reduceCtorEq] at h
  all_goals
   subst h
   exact ⟨_, rfl, rfl⟩
 | _ => simp [unC] at h
def Qqe (b : Bool) (x y : C) : Option C :=
 match x with
 | .bool u => match y with
  | .bool v => some (.bool (cond b u v))
  | _ => none
 | .int k u => match y with
  | .int k' v => match decide (k = k') with
   | true => some (.int k (cond b u v))
   | false => none
  | _ => none
 | .str u => match y with
  | .str v => some (.str (cond b u v))
  | _ => none
 | _ => none
theorem Qsg {b : Bool} {y c : C} (h : Qqe b x y = some c) (hx : b = true → RepC F H μ x u) (hy : b = false → RepC F H μ y v) :
  RepC F H μ c (if b then u else v) := by
 cases x <;> cases y <;> simp only [Qqe, Qxv, reduceCtorEq] at h
 ·subst h
  cases b
  ·exact hy rfl
  ·exact hx rfl
 ·rename_i k m k' m'
  by_cases hk : k = k'
  ·subst hk
   simp only [decide_true, Qxv] at h
   subst h
   cases b
   ·exact hy rfl
   ·exact hx rfl
  ·simp [hk] at h
 ·subst h
  cases b
  ·exact hy rfl
  ·exact hx rfl
def QgM (H : List O) : C → Option (List Prop)
 | .ep id _ _ tot => match getL H id with
  | some (.arr _ _ n _) => some [tot = n]
  | _ => none
 | _ => some []
def lenC : C → Option Nat
 | .str s => some s.size
 | .isl _ n _ _ => some n
 | .sl _ _ len _ _ => some len
 | .nils => some 0
 | _ => none
def Qd9 (Γ : Env) (src dst : Nat) (H : List O) (x : C) : Option (List Prop × C) :=
 match x with
 | .int _ n => match QdW Γ src with
  | some _ => match QdW Γ dst with
   | some k' => some ([], .int k' (k'.wrap n))
   | none => none
  | none => none
 | .isl es n get _ => match Q2 Γ src with
  | some (e, _) => match QdW Γ e with
   | some .u8 => match QcB Γ dst with
    | true => match Nat.beq es 1 with
     | true => some ([∀ i, i < n → ∃ v, get i 0 = .int .u8 v], .str (QQ n get))
     | false => none
    | false => none
   | _ => none
  | none => none
 | .sl id es len tot _ => match Q2 Γ src with
  | some (e, _) => match QdW Γ e with
   | some .u8 => match QcB Γ dst with
    | true => match Nat.beq es 1 with
     | true => match getL H id with
      | some (.arr _ _ n get) => some ([tot = n, ∀ i, i < len → ∃ v, get i 0 = .int .u8 v], .str (QQ len get))
      | _ => none
     | false => none
    | false => none
   | _ => none
  | none => none
 | _ => none
def QeQ (H : List O) : C → Option (List Prop)
 | .ptr .. => some []
 | .ip .. => some []
 | .fn (.func _) _ _ => some []
 | .ep id _ _ tot => match getL H id with
  | some (.arr _ _ n _) => some [tot = n]
  | _ => none
 | _ => none
def Qtx : BinOp → Option Bool
 | .eql => some true
 | .neq => some false
 | _ => none
def Qbf (ts : Ts) : Option Operand → Option (List Prop × Option Int)
 | none => some ([], none)
 | some x => match bare (opnd ts x) with
  | (p, .c (.int _ n)) => some (p, some n)
  | _ => none
def val (Γ : Env) (ts : Ts) (H : List O) (op : Op) : Option (List Prop × S) :=
 match op with
 | .move x => some ([], opnd ts x)
 | .assign x => some ([], opnd ts x)
 | .pick c a b => match bare (opnd ts c) with
  | (pc, .c (.bool c)) => match bare (opnd ts a) with
   | (pa, .c a) => match bare (opnd ts b) with
    | (pb, .c b) => match Qqe c a b with
     | some r => some (pc ++ pa.map (fun q => c = true → q) ++ pb.map (fun q => c = false → q), .c r)
     | none => none
    | _ => none
   | _ => none
  | _ => none
 | .load t a => match Γ.at t with
  | some i => match bare (opnd ts a) with
   | (p, .c a) => match Qb0 i H a with
    | some (q, s) => some (p ++ q, s)
    | none => none
   | _ => none
  | none => none
 | .nilCheck x => match bare (opnd ts x) with
  | (p, .c c) => match QeQ H c with
   | some q => some (p ++ q, .c c)
   | none => none
  | _ => none
 | .fieldAddr t x f => match Qev Γ t f with
  | some o => match bare (opnd ts x) with
   | (p, .c c) => match Qfr o c with
    | some r => match QgM H c with
     | some q => some (p ++ q, .c r)
     | none => none
    | none => none
   | _ => none
  | none => none
 | .field t x f => match bare (opnd ts x) with
  | (p, .a cs) => match Ql9 Γ t f cs with
   | some s => some (p, s)
   | none => none
  | _ => none
 | .indexAddr t x i => match Q2 Γ t with
  | some (_, te) => match bare (opnd ts x) with
   | (p, .c x) => match bare (opnd ts i) with
    | (q, .c (.int _ i)) => match QdS te H x i with
     | some (r, c) => some (p ++ q ++ r, .c c)
     | none => none
    | _ => none
   | _ => none
  | none => match QlN Γ t with
   | some (n, _, te) => match bare (opnd ts x) with
    | (p, .c (.ptr id off)) => match bare (opnd ts i) with
     | (q, .c (.int _ i)) => some (p ++ q ++ [0 ≤ i, i < n], .c (.ptr id (off + i.toNat * te.size)))
     | _ => none
    | _ => none
   | none => none
 | .index t x i => match QcB Γ t with
  | true => match bare (opnd ts x) with
   | (p, .c (.str s)) => match bare (opnd ts i) with
    | (q, .c (.int _ i)) => some (p ++ q ++ [0 ≤ i, i < s.size], .c (.int .u8 (s.data.toList.getD i.toNat 0).toNat))
    | _ => none
   | _ => none
  | false => match QlN Γ t with
   | some (n, _, te) => match bare (opnd ts x) with
    | (p, .a cs) => match bare (opnd ts i) with
     | (q, .c (.int _ i)) => match cut cs (i.toNat * te.size) te.size with
      | some xs => match mkS te.agg xs with
       | some s => some (p ++ q ++ [0 ≤ i, i < n], s)
       | none => none
      | none => none
     | _ => none
    | _ => none
   | none => none
 | .binOp op t x y _ => match bare (opnd ts x) with
  | (p, .c x) => match bare (opnd ts y) with
   | (q, .c y) => match binC op x y with
    | some (r, v) => match x with
     | .bool _ => match QjQ Γ t with
      | true => some (p ++ q ++ r, .c v)
      | false => none
     | _ => some (p ++ q ++ r, .c v)
    | none => none
   | _ => none
  | (p, .a xs) => match bare (opnd ts y) with
   | (q, .a ys) => match Qtx op with
    | some e => match Γ.at t with
     | some i => match i.flat && Nat.beq i.zero.length i.size with
      | true => match eqL i.zero xs ys with
       | some r => some (p ++ q, .c (.bool (r == e)))
       | none => none
      | false => none
     | none => none
    | none => none
   | _ => none
  | _ => none
 | .unOp op _ x => match bare (opnd ts x) with
  | (p, .c x) => match unC op x with
   | some v => some (p, .c v)
   | none => none
  | _ => none
 | .convert src dst x => match bare (opnd ts x) with
  | (p, .c x) => match Qd9 Γ src dst H x with
   | some (q, v) => some (p ++ q, .c v)
   | none => none
  | _ => none
 | .lookup t x ix ok => match QdH Γ t with
  | some (sh, _, _, te) => match Qqq te with
   | true => match bare (opnd ts x) with
    | (p, .c (.mpr id)) => match bare (opnd ts ix) with
     | (q, s) => match keyS s with
      | some key => match shB sh key with
       | true => match getL H id with
        | some (.mp sh' z va ks vl) => match mpB sh te sh' z va with
         | true => some (p ++ q, QlM va te.size ks vl key ok)
         | false => none
        | _ => none
       | false => none
      | none => none
    | _ => none
   | false => none
  | none => none
 | .extract x i => match opnd ts x with
  | .t l => match getL l i with
   | some (.inl c) => some ([], .c c)
   | some (.inr cs) => some ([], .a cs)
   | none => none
  | _ => none
 | .build t parts => match Qfy Γ ts t parts.toList with
  | some s => some (QaD ts parts.toList, s)
  | none => none
 | .makeFunc f first captured => match first.toList with
  | [] => match Qce ts captured.toList with
   | some cs => some ([], .c (.fn f cs.length (lget cs)))
   | none => none
  | _ => none
 | .slice t x lo hi mx => match bare (opnd ts x) with
  | (p, .c x) => match Qbf ts lo with
   | some (p1, lo) => match Qbf ts hi with
    | some (p2, hi) => match Qbf ts mx with
     | some (p3, mx) => match x with
      | .sl id es len tot xq => match Q2 Γ t with
       | some (_, te) => match QdL te H (.sl id es len tot xq) lo hi mx with
        | some (q, s) => some (p ++ (p1 ++ (p2 ++ (p3 ++ q))), s)
        | none => none
       | none => none
      | x => match Qa1 x lo hi mx with
       | some (q, c) => match x with
        | .isl es _ _ _ => match Q2 Γ t with
         | some (_, te) => match Nat.beq es te.size with
          | true => some (p ++ (p1 ++ (p2 ++ (p3 ++ q))), .c c)
          | false => none
         | none => none
        | .str _ => match QcB Γ t with
         | true => some (p ++ (p1 ++ (p2 ++ (p3 ++ q))), .c c)
         | false => none
        | _ => none
       | none => none
     | none => none
    | none => none
   | none => none
  | _ => none
 | .call { callee := .builtin .len, args, argTypes } => match args.toList with
  | [x] => match argTypes.toList with
   | [t] => match bare (opnd ts x) with
    | (p, .c c) => match lenC c with
     | some n => match c with
      | .str _ => match QcB Γ t with
       | true => some (p, .c (.int .i64 n))
       | false => none
      | .sl id _ _ tot _ => match Q2 Γ t with
       | some _ => match getL H id with
        | some (.arr _ _ n' _) => some (p ++ [tot = n'], .c (.int .i64 n))
        | _ => none
       | none => none
      | _ => match Q2 Γ t with
       | some _ => some (p, .c (.int .i64 n))
       | none => none
     | none => match c with
      | .mpr id => match getL H id with
       | some (.mp _ _ _ ks _) => match QdH Γ t with
        | some _ => some (p, .c (.int .i64 ks.length))
        | none => none
       | _ => none
      | _ => none
    | _ => none
   | _ => none
  | _ => none
 | .call { callee := .builtin .max, args, .. } => match args.toList with
  | [x, y] => match bare (opnd ts x) with
   | (p, .c (.int k a)) => match bare (opnd ts y) with
    | (q, .c (.int _ b)) => some (p ++ q, .c (.int k (max a b)))
    | _ => none
   | _ => none
  | _ => none
 | .call { callee := .builtin .min, args, .. } => match args.toList with
  | [x, y] => match bare (opnd ts x) with
   | (p, .c (.int k a)) => match bare (opnd ts y) with
    | (q, .c (.int _ b)) => some (p ++ q, .c (.int k (min a b)))
    | _ => none
   | _ => none
  | _ => none
 | _ => none
end Go.Am
end
