import Derived.Test.YtbdhjlanfigdgaaA4
import Derived.Laws.Slices
import Derived.Laws.BytesArg
import Derived.Laws.Tables
/- THE ABSTRACT MACHINE, PART 5: literals, slices, conversions. -/
namespace Go.Am

def zeroL (i : TI) : List C := i.zero.map Z.toC

theorem zC_ok {F : Mem} {H : List O} {μ : Nat → Value} (z : Z) : RepC F H μ z.toC z.toV := by
  cases z <;> first | rfl | skip
  · exact ⟨rfl, by unfold maxLen; exact Nat.zero_le _⟩

theorem zeroL_ok {P : Program} {F : Mem} {H : List O} {μ : Nat → Value} {t : Nat} {i : TI} (ht : TIok P t i) (w : World) :
    ∃ z, (zeroValue t).run P w = .ok z w ∧ RepL F H μ (zeroL i) z.cells ∧ (∃ x, P.info? t = some x ∧ x.zero = some z) := by
  obtain ⟨x, h1, _, _, z, h3, h4⟩ := ht.info
  refine ⟨z, by simp [zeroValue, typeInfo, h1, h3], ⟨?_, fun j c hc => ?_⟩, x, h1, h3⟩
  · rw [← Array.length_toList, h4]; simp [zeroL]
  · rw [getL_eq] at hc
    simp only [zeroL, List.getElem?_map] at hc
    cases hz : i.zero[j]? with
    | none => simp [hz] at hc
    | some y =>
      simp only [hz, Option.map_some, Option.some.injEq] at hc
      subst hc
      refine ⟨y.toV, ?_, zC_ok y⟩
      rw [← Array.getElem?_toList, h4]
      simp [hz]

/-- A struct literal's fields. -/
def buildF (Γ : Env) (fs : List (Nat × Nat)) (ts : Ts) : List (Nat × Operand) → List C → Option (List C)
  | [], cells => some cells
  | (i, x) :: r, cells => match getL fs i with
    | some f => match Γ.at f.2 with
      | some j => match (opnd ts x).cells with
        | some ys => match Nat.beq ys.length j.size with
          | true => match splice cells f.1 ys with
            | some cells' => buildF Γ fs ts r cells'
            | none => none
          | false => none
        | none => none
      | none => none
    | none => none

def buildV (Γ : Env) (ts : Ts) (t : Nat) (parts : List (Nat × Operand)) : Option S :=
  match Γ.at t with
  | some i => match i.td with
    | .strct fs => match buildF Γ fs ts parts (zeroL i) with
      | some cs => some (.a cs)
      | none => none
    | _ => none
  | none => none

theorem buildF_ok {P : Program} {Γ : Env} (hΓ : EnvOk P Γ) {F : Mem} {H : List O} {μ : Nat → Value} {ts : Ts} {a : Act} (hT : TSat F H μ ts a.tmps) (fields : List Field) (fs : List (Nat × Nat))
    (hf : fs = fields.map fun f => (f.offset, f.type)) (places : List (Nat × Nat)) (hp : fields.mapM (fun f => (P.info? f.type).map fun i => (f.offset, i.size)) = some places) :
    ∀ (parts : List (Nat × Operand)) (cells : List C) (r : List C) (vs : Array Value), buildF Γ fs ts parts cells = some r → RepL F H μ cells vs →
      ∃ us, Instr.fill (places.toArray[·]?) vs (parts.map fun x => (x.1, a.eval x.2)) = some us ∧ RepL F H μ r us := by
  have hpl : ∀ (i : Nat) (f : Nat × Nat) (j : TI), getL fs i = some f → Γ.at f.2 = some j → places[i]? = some (f.1, j.size) := by
    intro i f j h1 h2
    rw [getL_eq, hf, List.getElem?_map] at h1
    cases hy : fields[i]? with
    | none => simp [hy] at h1
    | some y =>
      simp only [hy, Option.map_some, Option.some.injEq] at h1
      subst h1
      obtain ⟨x, x1, x2, _⟩ := (hΓ _ _ h2).info
      have key : ∀ (l : List Field) (p : List (Nat × Nat)) (i : Nat), l.mapM (fun f => (P.info? f.type).map fun i => (f.offset, i.size)) = some p → l[i]? = some y → p[i]? = some (y.offset, j.size) := by
        intro l
        induction l with
        | nil => intro p i _ h; simp at h
        | cons z l ih =>
          intro p i hm hi
          simp only [List.mapM_cons, Option.bind_eq_bind, Option.pure_def] at hm
          cases hz : P.info? z.type with
          | none => simp [hz] at hm
          | some iz =>
            cases hr : l.mapM (fun f => (P.info? f.type).map fun i => (f.offset, i.size)) with
            | none => simp [hz, hr] at hm
            | some p' =>
              simp [hz, hr] at hm
              subst hm
              cases i with
              | zero =>
                simp at hi
                subst hi
                rw [x1] at hz
                cases hz
                simp [x2]
              | succ i => simp at hi ⊢; exact ih p' i hr hi
      exact key fields places i hp hy
  intro parts
  induction parts with
  | nil => intro cells r vs h hl; simp only [buildF, Option.some.injEq] at h; subst h; exact ⟨vs, rfl, hl⟩
  | cons p parts ih =>
    obtain ⟨i, x⟩ := p
    intro cells r vs h hl
    simp only [buildF] at h
    cases h1 : getL fs i with
    | none => simp [h1] at h
    | some f =>
      cases h2 : Γ.at f.2 with
      | none => simp [h1, h2] at h
      | some j =>
        cases h3 : (opnd ts x).cells with
        | none => simp [h1, h2, h3] at h
        | some ys =>
          cases h4 : Nat.beq ys.length j.size with
          | false => simp only [h1, h2, h3, h4] at h; cases h
          | true =>
            cases h5 : splice cells f.1 ys with
            | none => simp only [h1, h2, h3, h4, h5] at h; cases h
            | some cells' =>
              simp only [h1, h2, h3, h4, h5] at h
              have hys := cells_ok (opnd_ok hT x) h3
              obtain ⟨us, u1, u2⟩ := ih cells' r _ h (hl.splice hys h5)
              have hsz : (a.eval x).cells.size = j.size := by rw [hys.1]; exact Nat.eq_of_beq_eq_true h4
              have hfit := (splice_ok _ _ _ _ h5).2.1
              refine ⟨us, ?_, u2⟩
              simp only [List.map_cons, Instr.fill]
              have := hpl i f j h1 h2
              simp only [List.getElem?_toArray, this]
              rw [if_neg]
              · simpa using u1
              · have q1 := hl.1
                have q2 := hys.1
                simp [hsz]
                omega

theorem buildV_ok {P : Program} {Γ : Env} (hΓ : EnvOk P Γ) {F : Mem} {H : List O} {μ : Nat → Value} {ts : Ts} {a : Act} (hT : TSat F H μ ts a.tmps) {t : Nat} {parts : Array (Nat × Operand)} {s : S} (w : World)
    (h : buildV Γ ts t parts.toList = some s) : ∃ r, (Instr.build t (parts.map fun (i, x) => (i, a.eval x))).run P w = .ok r w ∧ RepS F H μ s r := by
  unfold buildV at h
  cases h1 : Γ.at t with
  | none => simp [h1] at h
  | some i =>
    simp only [h1] at h
    have hti := hΓ t i h1
    obtain ⟨d, h2, h3⟩ := hti.und
    cases htd : i.td with
    | strct fs =>
      simp only [htd] at h h3
      cases d with
      | struct fields =>
        obtain ⟨e1, e2⟩ := h3
        cases hb : buildF Γ fs ts parts.toList (zeroL i) with
        | none => simp [hb] at h
        | some cs =>
          simp only [hb, Option.some.injEq] at h
          subst h
          obtain ⟨z, z1, z2, x, x1, x2⟩ := zeroL_ok (F := F) (H := H) (μ := μ) hti w
          have hm : ∃ places, fields.toList.mapM (fun f => (P.info? f.type).map fun i => (f.offset, i.size)) = some places := by
            have : ∀ l : List Field, (∀ f ∈ l, ∃ i, P.info? f.type = some i ∧ i.size ≠ 0) → ∃ places, l.mapM (fun f => (P.info? f.type).map fun i => (f.offset, i.size)) = some places := by
              intro l
              induction l with
              | nil => intro _; exact ⟨[], rfl⟩
              | cons f l ih =>
                intro hl
                obtain ⟨i, i1, _⟩ := hl f (by simp)
                obtain ⟨p, hp⟩ := ih (fun g hg => hl g (by simp [hg]))
                exact ⟨(f.offset, i.size) :: p, by simp [List.mapM_cons, i1, hp]⟩
            exact this _ e2
          obtain ⟨places, hp⟩ := hm
          obtain ⟨us, u1, u2⟩ := buildF_ok hΓ hT fields.toList fs e1 places hp parts.toList (zeroL i) cs z.cells hb z2
          refine ⟨.agg us, run_build w t _ us ?_, us, rfl, u2⟩
          unfold Program.built
          simp only [x1, h2, x2, hp]
          simpa using u1
      | _ => simp [tdOk] at h3
    | _ => simp [htd] at h

def optInt (ts : Ts) : Option Operand → Option (Option Int)
  | none => some none
  | some x => match opnd ts x with
    | .c (.int _ n) => some (some n)
    | _ => none

/-- A part of a slice or of a string. -/
def sliceK (x : C) (lo hi mx : Option Int) : Option (List Prop × C) :=
  match x with
  | .isl es n get tight => match mx with
    | none => match lo with
      | none => match hi with
        | none => some ([], .isl es n get tight)
        | some h => some ([0 ≤ h, h ≤ n], .isl es h.toNat get false)
      | some l => match hi with
        | none => some ([0 ≤ l, l ≤ n], .isl es (n - l.toNat) (fun i j => get (l.toNat + i) j) false)
        | some h => some ([0 ≤ l, l ≤ h, h ≤ n], .isl es (h.toNat - l.toNat) (fun i j => get (l.toNat + i) j) false)
    | some m => match lo with
      | none => match hi with
        | none => none
        | some h => some ([0 ≤ h, h ≤ n, m = h], .isl es h.toNat get true)
      | some l => match hi with
        | none => none
        | some h => some ([0 ≤ l, l ≤ h, h ≤ n, m = h], .isl es (h.toNat - l.toNat) (fun i j => get (l.toNat + i) j) true)
  | .str s => match mx with
    | some _ => none
    | none => match lo with
      | none => match hi with
        | none => some ([], .str s)
        | some h => some ([0 ≤ h, h ≤ s.size], .str (s.extract 0 h.toNat))
      | some l => match hi with
        | none => some ([0 ≤ l, l ≤ s.size], .str (s.extract l.toNat s.size))
        | some h => some ([0 ≤ l, l ≤ h, h ≤ s.size], .str (s.extract l.toNat h.toNat))
  | _ => none

theorem isl_part {F : Mem} {es n : Nat} {get : Nat → Nat → C} {tight : Bool} {a : Option Addr} {cap : Nat} (hx : RepF F (.isl es n get tight) (.slice a n cap)) (l h m : Nat) (tight' : Bool)
    (h1 : l ≤ h) (h2 : h ≤ n) (h3 : h ≤ m) (_h4 : m ≤ cap) (ht : tight' = true → m = h) (get' : Nat → Nat → C) (hg : ∀ i j, get' i j = get (l + i) j) :
    RepF F (.isl es (h - l) get' tight') (sliced a l h m es) := by
  obtain ⟨a', cap', e, q1, q2, q3, q3', q4⟩ := hx
  cases e
  refine ⟨_, _, rfl, by omega, by omega, fun e => by have := ht e; omega, fun e => ?_, ?_⟩
  · by_cases c : m = l
    · omega
    · rw [if_neg c] at e
      cases a with
      | none => have := q3' rfl; omega
      | some a => simp at e
  by_cases h0 : h - l = 0
  · exact .inl h0
  · right
    rcases q4 with q4 | ⟨b, off, rfl, hc⟩
    · omega
    · rw [if_neg (by omega)]
      refine ⟨b, off + l * es, by simp [add_at], fun i hi j hj => ?_⟩
      obtain ⟨x, x1, x2⟩ := hc (l + i) (by omega) j hj
      refine ⟨x, ?_, by rw [hg]; exact x2⟩
      rw [← x1]; congr 1; rw [Nat.add_mul]; omega

def kindI : Option Int → Option Value → Prop
  | none, none => True
  | some n, some v => ∃ k, v = .int k n
  | _, _ => False

/-- What is sliced is of the slice's type. -/
def sliceT (P : Program) (Γ : Env) (t : Nat) : C → Prop
  | .isl es _ _ _ => ∃ e te, elemOf Γ t = some (e, te) ∧ es = te.size
  | _ => P.underlying t = some .string

theorem sliceK_ok {P : Program} {Γ : Env} (hΓ : EnvOk P Γ) {F : Mem} {H : List O} {μ : Nat → Value} (w : World) {t : Nat} {x c : C} {lo hi mx : Option Int} {vlo vhi vmx : Option Value} {v : Value} {ns : List Prop}
    (hx : RepC F H μ x v) (h : sliceK x lo hi mx = some (ns, c)) (hn : ∀ q ∈ ns, q) (hlo : kindI lo vlo) (hhi : kindI hi vhi) (hmx : kindI mx vmx)
    (ht : sliceT P Γ t x) :
    ∃ r, (Instr.sliceAt t v vlo vhi vmx).run P w = .ok r w ∧ RepC F H μ c r := by
  cases x with
  | isl es n get tight =>
    obtain ⟨e, te, he, hes⟩ := ht
    obtain ⟨hu, hte⟩ := elemOf_ok hΓ he
    have hel : P.elem t = e := by simp [Program.elem, hu]
    have hu' : P.underlying t = some (.slice (P.elem t)) := by rw [hel]; exact hu
    have hsz : (sizeOf (P.elem t)).run P w = .ok es w := by rw [hel, hes]; exact sizeOf_ok hte w
    have hx' := hx
    obtain ⟨a, cap, rfl, q1, q2, q3, q3', q4⟩ := hx'
    rw [run_sliceAt_slice w t _ _ _ _ hu']
    cases mx with
    | none =>
      cases vmx with
      | some _ => exact hmx.elim
      | none =>
      cases lo with
      | none =>
        cases vlo with
        | some _ => exact hlo.elim
        | none =>
        cases hi with
        | none =>
          cases vhi with
          | some _ => exact hhi.elim
          | none =>
          simp only [sliceK, Option.some.injEq, Prod.mk.injEq] at h
          obtain ⟨rfl, rfl⟩ := h
          rw [run_slice_all w t a n cap hu', hsz]
          refine ⟨_, rfl, RepF.toC H μ _ _ ?_⟩
          have := isl_part (F := F) hx 0 n cap tight (by omega) (by omega) q2 (by omega) q3 get (fun i j => by simp)
          simpa using this
        | some hh =>
          cases vhi with
          | none => exact hhi.elim
          | some vh =>
          obtain ⟨k, rfl⟩ := hhi
          simp only [sliceK, Option.some.injEq, Prod.mk.injEq] at h
          obtain ⟨rfl, rfl⟩ := h
          have c0 : 0 ≤ hh := hn _ (by simp)
          have c1 : hh ≤ n := hn _ (by simp)
          rw [run_slice_h w t a n cap hu' k hh c0 (by omega), hsz]
          refine ⟨_, rfl, RepF.toC H μ _ _ ?_⟩
          have := isl_part (F := F) hx 0 hh.toNat cap false (by omega) (by omega) (by omega) (by omega) (by simp) get (fun i j => by simp)
          simpa using this
      | some ll =>
        cases vlo with
        | none => exact hlo.elim
        | some vl =>
        obtain ⟨kl, rfl⟩ := hlo
        cases hi with
        | none =>
          cases vhi with
          | some _ => exact hhi.elim
          | none =>
          simp only [sliceK, Option.some.injEq, Prod.mk.injEq] at h
          obtain ⟨rfl, rfl⟩ := h
          have c0 : 0 ≤ ll := hn _ (by simp)
          have c1 : ll ≤ n := hn _ (by simp)
          rw [run_slice_l w t a n cap hu' kl ll c0 (by omega), hsz]
          refine ⟨_, rfl, RepF.toC H μ _ _ ?_⟩
          exact isl_part (F := F) hx ll.toNat n cap false (by omega) (by omega) (by omega) (by omega) (by simp) _ (fun i j => rfl)
        | some hh =>
          cases vhi with
          | none => exact hhi.elim
          | some vh =>
          obtain ⟨k, rfl⟩ := hhi
          simp only [sliceK, Option.some.injEq, Prod.mk.injEq] at h
          obtain ⟨rfl, rfl⟩ := h
          have c0 : 0 ≤ ll := hn _ (by simp)
          have c1 : ll ≤ hh := hn _ (by simp)
          have c2 : hh ≤ n := hn _ (by simp)
          rw [run_slice_lh w t a n cap hu' kl k ll hh c0 c1 (by omega), hsz]
          refine ⟨_, rfl, RepF.toC H μ _ _ ?_⟩
          exact isl_part (F := F) hx ll.toNat hh.toNat cap false (by omega) (by omega) (by omega) (by omega) (by simp) _ (fun i j => rfl)
    | some m =>
      cases vmx with
      | none => exact hmx.elim
      | some vm =>
      obtain ⟨km, rfl⟩ := hmx
      cases lo with
      | none =>
        cases vlo with
        | some _ => exact hlo.elim
        | none =>
        cases hi with
        | none => simp [sliceK] at h
        | some hh =>
          cases vhi with
          | none => exact hhi.elim
          | some vh =>
          obtain ⟨k, rfl⟩ := hhi
          simp only [sliceK, Option.some.injEq, Prod.mk.injEq] at h
          obtain ⟨rfl, rfl⟩ := h
          have c0 : 0 ≤ hh := hn _ (by simp)
          have c1 : hh ≤ n := hn _ (by simp)
          have c2 : m = hh := hn _ (by simp)
          subst c2
          rw [run_slice_hm w t a n cap hu' k km m m c0 (by omega) (by omega), hsz]
          refine ⟨_, rfl, RepF.toC H μ _ _ ?_⟩
          have := isl_part (F := F) hx 0 m.toNat m.toNat true (by omega) (by omega) (by omega) (by omega) (by simp) get (fun i j => by simp)
          simpa using this
      | some ll =>
        cases vlo with
        | none => exact hlo.elim
        | some vl =>
        obtain ⟨kl, rfl⟩ := hlo
        cases hi with
        | none => simp [sliceK] at h
        | some hh =>
          cases vhi with
          | none => exact hhi.elim
          | some vh =>
          obtain ⟨k, rfl⟩ := hhi
          simp only [sliceK, Option.some.injEq, Prod.mk.injEq] at h
          obtain ⟨rfl, rfl⟩ := h
          have c0 : 0 ≤ ll := hn _ (by simp)
          have c1 : ll ≤ hh := hn _ (by simp)
          have c2 : hh ≤ n := hn _ (by simp)
          have c3 : m = hh := hn _ (by simp)
          subst c3
          rw [run_slice_lhm w t a n cap hu' kl k km ll m m c0 c1 (by omega) (by omega), hsz]
          refine ⟨_, rfl, RepF.toC H μ _ _ ?_⟩
          exact isl_part (F := F) hx ll.toNat m.toNat m.toNat true (by omega) (by omega) (by omega) (by omega) (by simp) _ (fun i j => rfl)
  | str s =>
    have hu : P.underlying t = some .string := ht
    obtain ⟨rfl, hs⟩ := hx
    have bound : ∀ l h : Nat, (s.extract l h).size ≤ maxLen := by intro l h; simp [ByteArray.size_extract]; omega
    rw [run_sliceAt_string w t _ _ _ _ hu]
    cases mx with
    | some _ => simp [sliceK] at h
    | none =>
      cases vmx with
      | some _ => exact hmx.elim
      | none =>
      cases lo with
      | none =>
        cases vlo with
        | some _ => exact hlo.elim
        | none =>
        cases hi with
        | none =>
          cases vhi with
          | some _ => exact hhi.elim
          | none =>
          simp only [sliceK, Option.some.injEq, Prod.mk.injEq] at h
          obtain ⟨rfl, rfl⟩ := h
          refine ⟨.string (s.extract 0 s.size), by simp [Instr.slice, run_underlying hu, Instr.sliceBounds], ?_, hs⟩
          simp
        | some hh =>
          cases vhi with
          | none => exact hhi.elim
          | some vh =>
          obtain ⟨k, rfl⟩ := hhi
          simp only [sliceK, Option.some.injEq, Prod.mk.injEq] at h
          obtain ⟨rfl, rfl⟩ := h
          have c0 : 0 ≤ hh := hn _ (by simp)
          have c1 : hh ≤ s.size := hn _ (by simp)
          exact ⟨.string (s.extract 0 hh.toNat), by simp [Instr.slice, run_underlying hu, Instr.sliceBounds, run_sliceBound, c0, c1], rfl, bound _ _⟩
      | some ll =>
        cases vlo with
        | none => exact hlo.elim
        | some vl =>
        obtain ⟨kl, rfl⟩ := hlo
        cases hi with
        | none =>
          cases vhi with
          | some _ => exact hhi.elim
          | none =>
          simp only [sliceK, Option.some.injEq, Prod.mk.injEq] at h
          obtain ⟨rfl, rfl⟩ := h
          have c0 : 0 ≤ ll := hn _ (by simp)
          have c1 : ll ≤ s.size := hn _ (by simp)
          exact ⟨.string (s.extract ll.toNat s.size), by simp [Instr.slice, run_underlying hu, Instr.sliceBounds, run_sliceBound, c0, c1], rfl, bound _ _⟩
        | some hh =>
          cases vhi with
          | none => exact hhi.elim
          | some vh =>
          obtain ⟨k, rfl⟩ := hhi
          simp only [sliceK, Option.some.injEq, Prod.mk.injEq] at h
          obtain ⟨rfl, rfl⟩ := h
          have c0 : 0 ≤ ll := hn _ (by simp)
          have c1 : ll ≤ hh := hn _ (by simp)
          have c2 : hh ≤ s.size := hn _ (by simp)
          have c3 : 0 ≤ hh := by omega
          have eh : (hh.toNat : Int) = hh := Int.toNat_of_nonneg (by omega)
          exact ⟨.string (s.extract ll.toNat hh.toNat), by simp [Instr.slice, run_underlying hu, Instr.sliceBounds, run_sliceBound, c0, c1, c2, c3, eh], rfl, bound _ _⟩
  | _ => simp [sliceK] at h

def byteC : C → UInt8
  | .int _ n => UInt8.ofNat n.toNat
  | _ => 0

def bytesOf (n : Nat) (get : Nat → Nat → C) : ByteArray := ⟨((List.range n).map fun i => byteC (get i 0)).toArray⟩

end Go.Am
