/- MediaRaw: for every input within the bound that the statement names, the law returns true. The frame follows the seed's own example. -/
import Derived.Test.YtbdhjlanfigdgaaRows
import Derived.WalkKit
import Derived.ProofKit
import Derived.OpenShut
import Derived.ShutString
import Derived.ChangeOld
import Derived.Below
import Derived.Carry
import Derived.JoinedCond
import Derived.Test.YtbdhjlanfigdgaaAmC
import Derived.Test.YtbdhjlanfigdgaaL4
import Derived.Test.YtbdhjlanfigdgaaL6
set_option linter.unusedSimpArgs false
set_option linter.unusedVariables false
namespace Go.Proofs.Ytbdhjlanfigdgaa.mediaRawUpto
open Go.ChangeShapes Go.WideShapes Go.ChangeAt Go.RowKit
open Go.ChangeMaps (open_string shut_string)
set_option linter.unusedVariables false

theorem own : ownKnob Try.prog.godebug = none := by kernel_rfl
theorem laidOut : laidOutB Try.prog = true := by kernel_rfl

theorem one_le {H : Type} (d : DataW H) : 1 ≤ Rows.uptoBulk d := by
  cases d with
  | lit l => cases l <;> simp [Rows.uptoBulk]
  | nil => simp [Rows.uptoBulk]
  | ptr d => simp [Rows.uptoBulk]
  | slice elems spare => simp [Rows.uptoBulk]
  | agg parts => simp [Rows.uptoBulk]
  | iface t d => simp [Rows.uptoBulk]
  | map entries => simp [Rows.uptoBulk]
  | held h => simp [Rows.uptoBulk]
theorem str_bulk {H : Type} (s : ByteArray) : Rows.uptoBulk (DataW.lit (H := H) (.string s.data.toList)) = s.size + 1 := by
  simp only [Rows.uptoBulk]
  rw [Array.length_toList]
  rfl
theorem sum_bulk {H α : Type} {good : α → DataW H → Prop} {f : α → Nat} {c : Nat} (hf : ∀ a e, good a e → f a ≤ c * Rows.uptoBulk e) : ∀ (l : List α) (es : List (DataW H)), es.length = l.length → (∀ (i : Nat) a e, l[i]? = some a → es[i]? = some e → good a e) → (l.map f).sum ≤ c * Rows.uptoBulkAll es
  | [], es, _, _ => by simp
  | a :: l, [], h, _ => by simp at h
  | a :: l, e :: es, h, hg => by
    have h1 := hf a e (hg 0 a e rfl rfl)
    have h2 := sum_bulk hf l es (by simpa using h) fun i a e ha he => hg (i + 1) a e (by simpa using ha) (by simpa using he)
    simp only [List.map_cons, List.sum_cons, Rows.uptoBulkAll, Nat.mul_add]
    omega
theorem goodL_sum {H α : Type} {good : α → DataW H → Prop} {f : α → Nat} {c : Nat} (hf : ∀ a e, good a e → f a ≤ c * Rows.uptoBulk e) {l : List α} {d : DataW H} (h : Am.GoodL good l d) : (l.map f).sum + c ≤ c * Rows.uptoBulk d := by
  rcases h with ⟨rfl, rfl⟩ | ⟨es, sp, rfl, h1, h2⟩
  · simp only [Rows.uptoBulk, List.map_nil, List.sum_nil]; omega
  · have := sum_bulk hf l es h1 h2
    simp only [Rows.uptoBulk, Nat.mul_add]
    omega
theorem goodL_len {H α : Type} {good : α → DataW H → Prop} {l : List α} {d : DataW H} (h : Am.GoodL good l d) : l.length + 1 ≤ Rows.uptoBulk d := by
  have := goodL_sum (f := fun _ => 1) (c := 1) (fun a e _ => by rw [Nat.one_mul]; exact one_le e) h
  have e : (l.map fun _ => 1).sum = l.length := by
    clear this h
    induction l with
    | nil => rfl
    | cons x r ih => simp only [List.map_cons, List.sum_cons, ih, List.length_cons]; omega
  omega
theorem goodL_mem {H α : Type} {good : α → DataW H → Prop} {f : α → Nat} {c : Nat} (hf : ∀ a e, good a e → f a ≤ c * Rows.uptoBulk e) {l : List α} {d : DataW H} (h : Am.GoodL good l d) {i : Nat} {a : α} (ha : l[i]? = some a) : f a ≤ c * Rows.uptoBulk d := by
  have h1 := goodL_sum hf h
  have h2 : f a ≤ (l.map f).sum := by
    have : ∀ (l : List α) (i : Nat), l[i]? = some a → f a ≤ (l.map f).sum := by
      intro l
      induction l with
      | nil => intro i hi; simp at hi
      | cons x r ih =>
        intro i hi
        cases i with
        | zero => simp only [List.getElem?_cons_zero, Option.some.injEq] at hi; subst hi; simp
        | succ i => have := ih i (by simpa using hi); simp only [List.map_cons, List.sum_cons]; omega
    exact this l i ha
  omega
theorem zone_bulk {H : Type} {z : Am.Zone} {d : DataW H} (h : GoodZ z d) : Am.lightZ z ≤ 2 * Rows.uptoBulk d ∧ z.sectors.length ≤ Rows.uptoBulk d := by
  obtain ⟨-, ss, rfl, h2⟩ := h
  have h3 := goodL_len h2
  have h4 : Am.lightS z.sectors + 1 ≤ 1 * Rows.uptoBulk ss := goodL_sum (f := fun s : ByteArray => s.size / 20) (fun s e he => by
    rw [he.2, str_bulk]; omega) h2
  simp only [Rows.uptoBulk, Rows.uptoBulkAll, Am.lightZ]
  omega
theorem dev_bulk {H : Type} {x : Am.Dev} {d : DataW H} (h : GoodDev x d) (hb : Rows.uptoBulk d ≤ 1048576) : x.small ∧ x.dur ∧ Am.lightN x.zones ≤ 1000000000 := by
  obtain ⟨-, zs, rfl, h2⟩ := h
  have hz : Rows.uptoBulk zs ≤ 1048576 := by
    simp only [Rows.uptoBulk, Rows.uptoBulkAll] at hb
    omega
  have h3 := goodL_len h2
  have h4 : Am.lightN x.zones + 2 ≤ 2 * Rows.uptoBulk zs := goodL_sum (f := Am.lightZ) (fun z e he => (zone_bulk he).1) h2
  refine ⟨⟨by omega, fun i => ?_⟩, fun i => ?_, by omega⟩
  · by_cases hi : i < x.zones.length
    · have := goodL_mem (f := fun z : Am.Zone => z.sectors.length) (c := 1) (fun z e he => by have := (zone_bulk he).2; omega) h2 (i := i) (a := x.zones[i]) (by simp [hi])
      have e : x.zones.getD i default = x.zones[i] := by simp [List.getD, hi]
      rw [e]
      omega
    · have : x.zones.getD i default = default := by simp [List.getD, Nat.le_of_not_lt hi]
      rw [this]; exact Nat.zero_le _
  · by_cases hi : i < x.zones.length
    · have e : x.zones.getD i default = x.zones[i] := by simp [List.getD, hi]
      rw [e]
      rcases h2 with ⟨-, e0⟩ | ⟨es, sp, -, l1, l2⟩
      · rw [e0] at hi; simp at hi
      · have := l2 i x.zones[i] (es[i]'(by omega)) (by simp [hi]) (by simp [l1, hi])
        exact this.1.du.2
    · have : x.zones.getD i default = default := by simp [List.getD, Nat.le_of_not_lt hi]
      rw [this]; exact Am.default_dur

theorem contract (H : Type) (enc : TypeId × Value → H) (W : World) (base : Nat) (args : Array Value) (ds gs : List (DataW H)) (before : List MemPlace)
    (hval : ∀ (j : Nat) t v, Try.f3.params[j]? = some t → args[j]? = some v → Value.okWide Try.prog W .any base t v)
    (hW : DataW.Whole enc Try.prog Try.f3.params.toList Rows.mediaRawSpec.vars false W args.toList ds gs before) (hk : Rows.uptoSmall H (ds ++ gs) = true) :
    Calls Try.prog 3 args W fun e W' => ∃ v, e = .returned v ∧ Rows.mediaRawSpec.post enc Try.prog Try.f3 false true false false W args v W' := by
  have hW' := hW
  obtain ⟨p, q, hA0, hV, rfl, hfz, hnd⟩ := hW
  have hA : DataW.TrodAll enc Try.prog W 0 (fun _ => true) true Try.f3.params.toList args.toList ds p := hA0
  rw [Try.params3] at hA hval
  obtain ⟨v0, vs0, d0, ds0, p0, q0, hargs, rfl, rfl, h0, r0⟩ := trodAll_cons hA
  obtain ⟨v1, vs1, d1, ds1, p1, q1, rfl, rfl, rfl, h1, r1⟩ := trodAll_cons r0
  obtain ⟨rfl, rfl, rfl⟩ := trodAll_nil r1
  obtain rfl : args = #[v0, v1] := by cases args; simp_all
  obtain ⟨rfl, rfl⟩ := trodVars_none hV
  clear hA0
  have hb : Rows.uptoBulkAll ([d0, d1] ++ ([] : List (DataW H))) ≤ 1048576 := of_decide_eq_true hk
  simp only [List.append_nil, Rows.uptoBulkAll] at hb
  have lt0 : ∀ x ∈ p0, x.block < W.heap.size := by obtain ⟨m, hm⟩ := h0; exact DataW.trod_lt m _ _ _ hm
  obtain ⟨cs0, hcs0, -⟩ := okWide_struct Try.underlying24 (hval 0 24 v0 rfl rfl)
  obtain ⟨x0, g0, s0⟩ := rd_agg (cells := Am.Dev.cells) (fun _ => rfl) rd_dev ⟨cs0, hcs0⟩ h0
  obtain ⟨b0, c0, e0⟩ := dev_bulk g0 (by omega)
  have lt1 : ∀ x ∈ p1, x.block < W.heap.size := by obtain ⟨m, hm⟩ := h1; exact DataW.trod_lt m _ _ _ hm
  obtain ⟨a1, len1, cap1, rfl⟩ := okWide_slice Try.underlying25 (hval 1 25 v1 rfl rfl)
  obtain ⟨x1, s1, b1⟩ : ∃ l : List Int, (∀ μ, Am.RepS (Am.heapM W) [] μ (.c (Am.intsC l)) (.slice a1 len1 cap1)) ∧ l.length + 1 ≤ Rows.uptoBulk d1 := by
    obtain ⟨fuel, hf⟩ := h1
    obtain ⟨-, l, l1, l2⟩ := (Am.Rd.slice (enc := enc) Try.underlying25 (by kernel_rfl) (by decide) (rd_int (enc := enc))).out W _ fuel _ _ hf
    obtain ⟨v, v1, v2⟩ := l1 0 (by decide)
    simp [Value.cells] at v1
    subst v1
    exact ⟨l, fun μ => Am.RepS.ofF v2, goodL_len l2⟩
  refine (Am.PSpec.lawB (mediaRaw_spec x0 b0 c0 e0 x1 (by omega)) W #[v0, .slice a1 len1 cap1] (Am.RepA.ofL ⟨s0 _, s1 _, trivial⟩)).mono fun e W' ⟨he, bel⟩ => ?_
  subst he
  exact ⟨_, rfl, _, _, _, [], _, [], hW', trodAll_mk1 (shut_bool Try.underlying4 _), (trodAll_cons_mk (Below.trod laidOut (by kernel_rfl) (of_decide_eq_true (by kernel_rfl)) h0 bel lt0) (trodAll_cons_mk (Below.trod laidOut (by kernel_rfl) (of_decide_eq_true (by kernel_rfl)) h1 bel lt1) trodAll_mk0)), rfl, bel.frame _, fun h => by cases h⟩

set_option maxRecDepth 100000 in
theorem lifted (os : Os) (started : os.Started) (H : Type) (enc : TypeId × Value → H) (F : Stop.Interp) :
    ReturnsInHanded {} Try.checked os 3 .any ((Rows.OpenSpec.upto Rows.mediaRawSpec).pre6 enc Try.prog Try.f3 Rows.mediaRawUptoRow.domain false) (((Rows.OpenSpec.upto Rows.mediaRawSpec).at F).post enc Try.prog Try.f3 false true false false) := by
  refine returnsInHanded_of_cond (C := Try.checked) (s := Rows.OpenSpec.upto Rows.mediaRawSpec) (k := Rows.uptoSmall) rfl own started (by kernel_rfl) Try.func3
    (OpenSpec.witness (enc := enc) (C := Try.checked) (s := Rows.OpenSpec.upto Rows.mediaRawSpec) (k := Rows.uptoSmall) rfl false ⟨#[], #[.agg #[.int .i64 0, .int .i64 0, .int .i64 0, .slice none 0 0], .slice none 0 0], []⟩ 8 (by kernel_rfl) (by kernel_rfl) (by kernel_rfl)
      (x := ([.agg [.lit (.int .i64 0), .lit (.int .i64 0), .lit (.int .i64 0), .nil], .nil], [], [])) (by kernel_rfl) rfl (by kernel_rfl)) ?_
  intro W base args ds gs before hval hW _ hk _
  exact contract H enc W base args ds gs before hval hW hk

theorem over : Rows.mediaRawUptoRow.holds Try.pinned (Rows.OpenSpec.upto Rows.mediaRawSpec) :=
  OpenClaim.holds_of_cond 3 Try.f3 rfl rfl rfl rfl rfl rfl rfl ⟨rfl, rfl, rfl, rfl, rfl⟩ rfl rfl rfl rfl rfl (by kernel_rfl) Try.func3 (by kernel_rfl)
    (of_decide_eq_true (by kernel_rfl)) (by unfold Func.isWrapper; first | (rw [if_pos (by decide +kernel)]; kernel_rfl) | (rw [if_neg (by decide +kernel)]; exact ⟨rfl, rfl⟩))
    (fun os started H enc _ F => lifted os started H enc F)

theorem proved : Rows.MediaRawUptoSaid :=
  over
#print axioms proved
end Go.Proofs.Ytbdhjlanfigdgaa.mediaRawUpto
