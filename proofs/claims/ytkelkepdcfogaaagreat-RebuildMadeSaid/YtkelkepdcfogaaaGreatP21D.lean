/- Contracts, lemmas; no condition. -/
import Derived.Test.YtkelkepdcfogaaaGreatEnvD
import Derived.Shelf.Strings.Repeat
import Derived.Shelf.Strings.OnBuilder
import Derived.Shelf.Strconv.Clone
import Derived.Test.YtkelkepdcfogaaaGreatA27D
import Derived.Test.YtkelkepdcfogaaaGreatP13D
import Derived.Test.YtkelkepdcfogaaaGreatP16D
import Derived.Test.YtkelkepdcfogaaaGreatP11D
import Derived.Test.YtkelkepdcfogaaaGreatP20D
import Derived.Test.YtkelkepdcfogaaaGreatP17D
import Derived.Test.YtkelkepdcfogaaaGreatP19D
import Derived.Test.YtkelkepdcfogaaaGreatP18D
set_option linter.all false
section
namespace Go.Proofs
open Go.Shelf
def Tryz.layRepeat_ren : Go.Shelf.Ren := ⟨fun | 105 => 182 | 212 => 186 | 99 => 187 | 165 => 183 | 166 => 184 | 170 => 188 | 169 => 185 | 263 => 191 | 264 => 192 | 206 => 193 | 240 => 189 | 241 => 190 | 276 => 194 | 277 => 195 | n => n, fun | 9 => 9 | 3 => 3 | 4 => 4 | 20 => 20 | 0 => 0 | 46 => 115 | 109 => 230 | 5 => 5 | 72 => 223 | 76 => 227 | 51 => 131 | 146 => 233 | 53 => 189 | 148 => 235 | 70 => 221 | 37 => 114 | 75 => 226 | 127 => 219 | 164 => 149 | 80 => 229 | n => n, fun | n => n⟩
theorem Tryz.layRepeat : Go.Proofs.Lays.n105 Tryz.prog Tryz.layRepeat_ren := {
 mixed := by kernel_rfl,
 f99 := Tryz.func187.trans (congrArg some (by kernel_rfl)),
 f105 := Tryz.func182.trans (congrArg some (by kernel_rfl)),
 f165 := Tryz.func183.trans (congrArg some (by kernel_rfl)),
 f166 := Tryz.func184.trans (congrArg some (by kernel_rfl)),
 f169 := Tryz.func185.trans (congrArg some (by kernel_rfl)),
 f170 := Tryz.func188.trans (congrArg some (by kernel_rfl)),
 f206 := Tryz.func193.trans (congrArg some (by kernel_rfl)),
 f212 := Tryz.func186.trans (congrArg some (by kernel_rfl)),
 f240 := Tryz.func189.trans (congrArg some (by kernel_rfl)),
 f241 := Tryz.func190.trans (congrArg some (by kernel_rfl)),
 f263 := Tryz.func191.trans (congrArg some (by kernel_rfl)),
 f264 := Tryz.func192.trans (congrArg some (by kernel_rfl)),
 f276 := Tryz.func194.trans (congrArg some (by kernel_rfl)),
 f277 := Tryz.func195.trans (congrArg some (by kernel_rfl)),
 t0 := Tryz.underlying0,
 a0 := Tryz.isAgg0,
 z0 := Tryz.sizeOf0,
 v0 := Tryz.zeroValue0,
 t3 := Tryz.underlying3,
 a3 := Tryz.isAgg3,
 z3 := Tryz.sizeOf3,
 v3 := Tryz.zeroValue3,
 t4 := Tryz.underlying4,
 a4 := Tryz.isAgg4,
 z4 := Tryz.sizeOf4,
 v4 := Tryz.zeroValue4,
 t5 := Tryz.underlying5,
 a5 := Tryz.isAgg5,
 z5 := Tryz.sizeOf5,
 v5 := Tryz.zeroValue5,
 t9 := Tryz.underlying9,
 a9 := Tryz.isAgg9,
 z9 := Tryz.sizeOf9,
 v9 := Tryz.zeroValue9,
 t20 := Tryz.underlying20,
 a20 := Tryz.isAgg20,
 z20 := Tryz.sizeOf20,
 v20 := Tryz.zeroValue20,
 t37 := Tryz.underlying114,
 a37 := Tryz.isAgg114,
 z37 := Tryz.sizeOf114,
 v37 := Tryz.zeroValue114,
 t46 := Tryz.underlying115,
 a46 := Tryz.isAgg115,
 z46 := Tryz.sizeOf115,
 v46 := Tryz.zeroValue115,
 t51 := Tryz.underlying131,
 a51 := Tryz.isAgg131,
 z51 := Tryz.sizeOf131,
 v51 := Tryz.zeroValue131,
 t53 := Tryz.underlying189,
 a53 := Tryz.isAgg189,
 z53 := Tryz.sizeOf189,
 v53 := Tryz.zeroValue189,
 t70 := Tryz.underlying221,
 a70 := Tryz.isAgg221,
 z70 := Tryz.sizeOf221,
 v70 := Tryz.zeroValue221,
 t72 := Tryz.underlying223,
 a72 := Tryz.isAgg223,
 z72 := Tryz.sizeOf223,
 v72 := Tryz.zeroValue223,
 t75 := Tryz.underlying226,
 a75 := Tryz.isAgg226,
 z75 := Tryz.sizeOf226,
 v75 := Tryz.zeroValue226,
 t76 := Tryz.underlying227,
 a76 := Tryz.isAgg227,
 z76 := Tryz.sizeOf227,
 v76 := Tryz.zeroValue227,
 t109 := Tryz.underlying230,
 a109 := Tryz.isAgg230,
 z109 := Tryz.sizeOf230,
 v109 := Tryz.zeroValue230,
 t127 := Tryz.underlying219,
 a127 := Tryz.isAgg219,
 z127 := Tryz.sizeOf219,
 v127 := Tryz.zeroValue219,
 t146 := Tryz.underlying233,
 a146 := Tryz.isAgg233,
 z146 := Tryz.sizeOf233,
 v146 := Tryz.zeroValue233,
 t148 := Tryz.underlying235,
 a148 := Tryz.isAgg235,
 z148 := Tryz.sizeOf235,
 v148 := Tryz.zeroValue235,
 t164 := Tryz.underlying149,
 a164 := Tryz.isAgg149,
 z164 := Tryz.sizeOf149,
 v164 := Tryz.zeroValue149 }
def Tryz.layJoin_ren : Go.Shelf.Ren := ⟨fun | 156 => 179 | 165 => 183 | 166 => 184 | 169 => 185 | 240 => 189 | 241 => 190 | 276 => 194 | 277 => 195 | n => n, fun | 31 => 44 | 9 => 9 | 3 => 3 | 4 => 4 | 0 => 0 | 20 => 20 | 72 => 223 | 76 => 227 | 70 => 221 | 37 => 114 | 75 => 226 | 127 => 219 | 164 => 149 | 5 => 5 | 80 => 229 | n => n, fun | n => n⟩
theorem Tryz.layJoin : Go.Proofs.Lays.n156 Tryz.prog Tryz.layJoin_ren := {
 mixed := by kernel_rfl,
 f156 := Tryz.func179.trans (congrArg some (by kernel_rfl)),
 f165 := Tryz.func183.trans (congrArg some (by kernel_rfl)),
 f166 := Tryz.func184.trans (congrArg some (by kernel_rfl)),
 f169 := Tryz.func185.trans (congrArg some (by kernel_rfl)),
 f240 := Tryz.func189.trans (congrArg some (by kernel_rfl)),
 f241 := Tryz.func190.trans (congrArg some (by kernel_rfl)),
 f276 := Tryz.func194.trans (congrArg some (by kernel_rfl)),
 f277 := Tryz.func195.trans (congrArg some (by kernel_rfl)),
 t0 := Tryz.underlying0,
 a0 := Tryz.isAgg0,
 z0 := Tryz.sizeOf0,
 v0 := Tryz.zeroValue0,
 t3 := Tryz.underlying3,
 a3 := Tryz.isAgg3,
 z3 := Tryz.sizeOf3,
 v3 := Tryz.zeroValue3,
 t4 := Tryz.underlying4,
 a4 := Tryz.isAgg4,
 z4 := Tryz.sizeOf4,
 v4 := Tryz.zeroValue4,
 t9 := Tryz.underlying9,
 a9 := Tryz.isAgg9,
 z9 := Tryz.sizeOf9,
 v9 := Tryz.zeroValue9,
 t20 := Tryz.underlying20,
 a20 := Tryz.isAgg20,
 z20 := Tryz.sizeOf20,
 v20 := Tryz.zeroValue20,
 t31 := Tryz.underlying44,
 a31 := Tryz.isAgg44,
 z31 := Tryz.sizeOf44,
 v31 := Tryz.zeroValue44,
 t37 := Tryz.underlying114,
 a37 := Tryz.isAgg114,
 z37 := Tryz.sizeOf114,
 v37 := Tryz.zeroValue114,
 t70 := Tryz.underlying221,
 a70 := Tryz.isAgg221,
 z70 := Tryz.sizeOf221,
 v70 := Tryz.zeroValue221,
 t72 := Tryz.underlying223,
 a72 := Tryz.isAgg223,
 z72 := Tryz.sizeOf223,
 v72 := Tryz.zeroValue223,
 t75 := Tryz.underlying226,
 a75 := Tryz.isAgg226,
 z75 := Tryz.sizeOf226,
 v75 := Tryz.zeroValue226,
 t76 := Tryz.underlying227,
 a76 := Tryz.isAgg227,
 z76 := Tryz.sizeOf227,
 v76 := Tryz.zeroValue227,
 t127 := Tryz.underlying219,
 a127 := Tryz.isAgg219,
 z127 := Tryz.sizeOf219,
 v127 := Tryz.zeroValue219,
 t164 := Tryz.underlying149,
 a164 := Tryz.isAgg149,
 z164 := Tryz.sizeOf149,
 v164 := Tryz.zeroValue149 }
def Tryz.layClone_ren : Go.Shelf.Ren := ⟨fun | 316 => 168 | n => n, fun | 9 => 9 | 3 => 3 | 4 => 4 | 37 => 114 | 0 => 0 | 127 => 219 | 5 => 5 | n => n, fun | n => n⟩
theorem Tryz.layClone : Go.Proofs.LaysM.n316 Tryz.prog Tryz.layClone_ren := {
 mixed := by kernel_rfl,
 f316 := Tryz.func168.trans (congrArg some (by kernel_rfl)),
 t0 := Tryz.underlying0,
 a0 := Tryz.isAgg0,
 z0 := Tryz.sizeOf0,
 v0 := Tryz.zeroValue0,
 t3 := Tryz.underlying3,
 a3 := Tryz.isAgg3,
 z3 := Tryz.sizeOf3,
 v3 := Tryz.zeroValue3,
 t4 := Tryz.underlying4,
 a4 := Tryz.isAgg4,
 z4 := Tryz.sizeOf4,
 v4 := Tryz.zeroValue4,
 t9 := Tryz.underlying9,
 a9 := Tryz.isAgg9,
 z9 := Tryz.sizeOf9,
 v9 := Tryz.zeroValue9,
 t37 := Tryz.underlying114,
 a37 := Tryz.isAgg114,
 z37 := Tryz.sizeOf114,
 v37 := Tryz.zeroValue114,
 t127 := Tryz.underlying219,
 a127 := Tryz.isAgg219,
 z127 := Tryz.sizeOf219,
 v127 := Tryz.zeroValue219,
 t5 := Tryz.underlying5,
 a5 := Tryz.isAgg5,
 z5 := Tryz.sizeOf5,
 v5 := Tryz.zeroValue5,
 i0 := by kernel_rfl,
 i3 := by kernel_rfl,
 i4 := by kernel_rfl,
 i5 := by kernel_rfl,
 i9 := by kernel_rfl,
 i37 := by kernel_rfl,
 i127 := by kernel_rfl }
end Go.Proofs
end

section
open Go Go.Am
namespace Go.Proofs
set_option maxRecDepth 20000
open Go.Sort
theorem PSpec.ofCallsF {P : Program} {f : FuncId} {args : List S} {r : S}
  (h : ∀ F μ w vs, (∀ b o, F b = some o → w.heap[b]? = some o) → RepA F [] μ args vs → ∃ v, (∀ F' μ', RepS F' [] μ' r v) ∧ Calls P f vs w fun e w' => e = .returned v ∧ Go.RowKit.Below w.heap.size w w') : PSpec P f args r := by
 intro K F μ w vs hw hA
 obtain ⟨v, v1, v2⟩ := h F μ w vs hw.fr hA
 refine v2.mono ?_
 rintro e w' ⟨rfl, hb⟩
 have hh : ∀ (b : Nat) (o : Obj), w.heap[b]? = some o → w'.heap[b]? = some o := fun b o e => by
  rw [hb.block b (Array.getElem?_eq_some_iff.1 e).1]; exact e
 exact ⟨v, F, μ, r, [], rfl, Mem.le_refl F, hw.later hb.os hb.tape hb.output hh, Ext.refl [] μ, v1 F μ, rfl⟩
theorem Qv2 {vs : Array Value} {a : Value} (h : vs.size = 1) (h0 : vs[0]? = some a) : vs = #[a] := by
 apply Array.ext_getElem?
 intro j
 match j with
 | 0 => rw [h0]; rfl
 | j + 1 => rw [Array.getElem?_eq_none (by omega), Array.getElem?_eq_none (by simp)]
theorem QuM {vs : Array Value} {a b : Value} (h : vs.size = 2) (h0 : vs[0]? = some a) (h1 : vs[1]? = some b) : vs = #[a, b] := by
 apply Array.ext_getElem?
 intro j
 match j with
 | 0 => rw [h0]; rfl
 | 1 => rw [h1]; rfl
 | j + 2 => rw [Array.getElem?_eq_none (by omega), Array.getElem?_eq_none (by simp)]
theorem QvI : Go.Proofs.Builder.Extra Tryz.prog Tryz.layRepeat_ren where
 sizeBuilder := by kernel_rfl
 liesBuilder := by kernel_rfl
 t5 := Tryz.layRepeat.t5
 a5 := Tryz.layRepeat.a5
 z5 := Tryz.layRepeat.z5
 v5 := Tryz.layRepeat.v5
 infoByte := by kernel_rfl
 cellsByte := by kernel_rfl
 sizeByte := by kernel_rfl
 neB5 := by decide
theorem Qmd : Go.Proofs.Builder.Extra Tryz.prog Tryz.layJoin_ren where
 sizeBuilder := by kernel_rfl
 liesBuilder := by kernel_rfl
 t5 := Tryz.layRepeat.t5
 a5 := Tryz.layRepeat.a5
 z5 := Tryz.layRepeat.z5
 v5 := Tryz.layRepeat.v5
 infoByte := by kernel_rfl
 cellsByte := by kernel_rfl
 sizeByte := by kernel_rfl
 neB5 := by decide
theorem Qtw (n : Nat) (hn : n ≤ 1000) : PS 182 [.c (.str ⟨#[0]⟩), .c (.int .i64 n)] (.c (.str (QP n fun _ _ => .int .u8 0))) := by
 refine PSpec.ofCalls fun F μ w vs hA => ?_
 obtain ⟨v0, a1, a2, -⟩ := hA.2 0 _ rfl
 obtain ⟨v1, b1, b2⟩ := hA.2 1 _ rfl
 rw [a2] at a1
 rw [show v1 = _ from b2] at b1
 obtain rfl := QuM hA.1 a1 b1
 have e : ∀ n, (Lib.repeatL [0] n) = (List.range n).map fun _ => (0 : UInt8) := by
  intro n
  induction n with
  | zero => rfl
  | succ n ih => rw [List.range_succ_eq_map, List.map_cons, List.map_map]; simp only [Lib.repeatL, ih]; rfl
 refine ⟨.string (QP n fun _ _ => .int .u8 0), fun F' μ' => ⟨rfl, by rw [Qbf]; unfold maxLen; omega⟩, ?_⟩
 refine (Any.strings_Repeat Tryz.layRepeat QvI ⟨#[0]⟩ n w (by omega) (by show 1 * n ≤ _; omega)).mono ?_
 rintro e' w' ⟨rfl, hb⟩
 refine ⟨?_, hb⟩
 rw [show (⟨#[0]⟩ : ByteArray).data.toList = [0] from rfl, e]
 rfl
theorem Qux : HB 182 := hB Tryz.func182
theorem Qnz (s : ByteArray) (hs : s.size ≤ 1000000) : PS 168 [.c (.str s)] (.c (.str s)) := by
 refine PSpec.ofCalls fun F μ w vs hA => ?_
 obtain ⟨v0, a1, a2, a3⟩ := hA.2 0 _ rfl
 rw [a2] at a1
 obtain rfl := Qv2 hA.1 a1
 exact ⟨.string s, fun F' μ' => ⟨rfl, a3⟩, Any.stringslite_Clone Tryz.layClone s w (by omega)⟩
theorem Qne : HB 168 := hB Tryz.func168
theorem Qpl (s : ByteArray) (hs : s.size ≤ 1000000) : PS 152 [.c (.str s)] (.c (.str s)) := by
 refine PSpec.rm ?_
 refine ov0 hΓ Tryz.func152 5 0 [.tmp 2] Tryz.ntmps152 Tryz.results152 ?_
 refine CallN.pureA Qne (Qnz s hs ) (Go0 ?_)
 exact RM.i0
theorem Qpa : HB 152 := hB Tryz.func152
def catB (l : List ByteArray) : ByteArray := l.foldl (· ++ ·) ByteArray.empty
theorem QkF (l : List (List UInt8)) : Lib.join l [] = l.flatten := by
 cases l with
 | nil => rfl
 | cons x r =>
  rw [Lib.join_cons]
  show x ++ (r.map fun y => [] ++ y).flatten = _
  simp
theorem Qn0 : ∀ (l : List ByteArray), (∀ x ∈ l, x.size ≤ 1000) → (l.map (·.data.toList)).flatten.length ≤ l.length * 1000
 | [], _ => Nat.zero_le _
 | x :: r, h => by
  have h1 := h x (List.mem_cons_self ..)
  have h2 := Qn0 r fun y hy => h y (List.mem_cons_of_mem _ hy)
  have e : x.data.toList.length = x.size := rfl
  simp only [List.map_cons, List.flatten_cons, List.length_append, List.length_cons]
  omega
theorem Qkw (l : List ByteArray) : (⟨(Lib.join (l.map (·.data.toList)) []).toArray⟩ : ByteArray) = catB l := by
 have hf : ∀ (l : List ByteArray) (a : ByteArray), (l.foldl (· ++ ·) a).data.toList = a.data.toList ++ (l.map (·.data.toList)).flatten := by
  intro l
  induction l with
  | nil => intro a; simp
  | cons x r ih => intro a; rw [List.foldl_cons, ih, ByteArray.data_append]; simp
 apply ByteArray.ext
 apply Array.toList_inj.1
 rw [QkF]
 unfold catB
 rw [hf]
 simp
theorem QkY (l : List ByteArray) (hl : l.length ≤ 100) (hs : ∀ x ∈ l, x.size ≤ 1000) : PS 179 [.c (Qbq l), .c (.str ByteArray.empty)] (.c (.str (catB l))) := by
 have hsz : (Lib.join (l.map (·.data.toList)) []).length ≤ 100000 := by
  rw [QkF]
  have := Qn0 l hs
  omega
 refine PSpec.ofCallsF fun F μ w vs hfr hA => ?_
 obtain ⟨v0, a1, a2⟩ := hA.2 0 _ rfl
 obtain ⟨v1, b1, b2, -⟩ := hA.2 1 _ rfl
 rw [b2] at b1
 obtain ⟨a, cap, rfl, h1, h2, h3, h4, h5⟩ := a2
 obtain rfl := QuM hA.1 a1 b1
 have hcat : (catB l).size ≤ maxLen := by
  rw [← Qkw]
  show (Lib.join (l.map (·.data.toList)) []).toArray.size ≤ _
  rw [List.size_toArray]
  unfold maxLen
  omega
 refine ⟨.string (catB l), fun F' μ' => ⟨rfl, hcat⟩, ?_⟩
 rw [← Qkw]
 rcases h5 with h5 | ⟨b, off, rfl, h5⟩
 ·obtain rfl := List.eq_nil_of_length_eq_zero h5
  refine (Any.strings_Join_none Tryz.layJoin Qmd a cap ByteArray.empty w).mono ?_
  rintro e w' ⟨rfl, rfl⟩
  exact ⟨rfl, Go.RowKit.Below.refl _ _⟩
 ·have hcell : ∀ j, j < l.length → F.cell b (off + j) = some (.string (l.getD j ByteArray.empty)) := fun j hj => by
   obtain ⟨x, x1, x2, -⟩ := h5 j hj 0 (by omega)
   rw [x2] at x1
   simpa using x1
  have hw : ∀ j, j < l.length → w.cell? ⟨b, off + j, none⟩ = some (.string (l.getD j ByteArray.empty)) := fun j hj => by
   have := hcell j hj
   unfold Mem.cell at this
   unfold World.cell?
   cases hF : F b with
   | none => rw [hF] at this; cases this
   | some o =>
    rw [hF] at this
    rw [hfr b o hF]
    cases o <;> simp_all
  by_cases h0 : l.length = 0
  ·obtain rfl := List.eq_nil_of_length_eq_zero h0
   refine (Any.strings_Join_none Tryz.layJoin Qmd _ cap ByteArray.empty w).mono ?_
   rintro e w' ⟨rfl, rfl⟩
   exact ⟨rfl, Go.RowKit.Below.refl _ _⟩
  have hb : b < w.heap.size := by
   have := hcell 0 (by omega)
   unfold Mem.cell at this
   cases hF : F b with
   | none => rw [hF] at this; cases this
   | some o => exact (Array.getElem?_eq_some_iff.1 (hfr b o hF)).1
  exact Any.strings_Join Tryz.layJoin Qmd b off cap l ByteArray.empty w (fun j x hx => by
   obtain ⟨hj, rfl⟩ := List.getElem?_eq_some_iff.1 hx
   rw [hw j hj]
   simp [List.getD, hj]) hb (by omega) h2 (by
    show (Lib.join (l.map (·.data.toList)) []).length ≤ _
    omega)
theorem Qk2 : HB 179 := hB Tryz.func179
end Go.Proofs
end

section
open Go Go.Am
namespace Go.Proofs
set_option maxRecDepth 20000
theorem Qjg (l : List ByteArray) (hl : l.length ≤ 100) (hs : ∀ x ∈ l, x.size ≤ 1000) : PS 181 [.c (Qbq l)] (.c (.str (catB l))) := by
  refine PSpec.rm ?_
  refine ov0 hΓ Tryz.func181 5 0 [.tmp 2] Tryz.ntmps181 Tryz.results181 ?_
  refine CallN.pureA Qk2 (QkY l hl hs ) (Go0 ?_)
  exact RM.i0
theorem Qi0 : HB 181 := hB Tryz.func181
theorem Qjf (l : List ByteArray) (hl : l.length ≤ 100) (hs : ∀ x ∈ l, x.size ≤ 1000) : PS 170 [.c (Qbq l)] (.c (.str (catB l))) := by
  refine PSpec.rm ?_
  refine ov0 hΓ Tryz.func170 5 0 [.tmp 2] Tryz.ntmps170 Tryz.results170 ?_
  refine CallN.pureA Qk2 (QkY l hl hs ) (Go0 ?_)
  exact RM.i0
theorem QjN : HB 170 := hB Tryz.func170
def sufS (n : Int) (size k : Nat) : ByteArray := QP k fun i _ => .int .u8 (putB n (size - k + i))
theorem Quo (n : Int) (size : Nat) : sufS n size size = putS n size := QgL fun i _ => by rw [Nat.sub_self, Nat.zero_add]
theorem Qt8 {n : Int} {size : Nat} (h1 : 1 ≤ size) (h7 : size ≤ 7) (h0 : 0 ≤ n) (hn : n < 2 ^ (8 * size)) : n.fdiv (2 ^ (min (IntKind.i64.wrap (8 * (size : Int))).toNat IntKind.i64.bits)) = 0 := by
  have e : IntKind.i64.wrap (8 * (size : Int)) = 8 * size := Qa _ (by omega) (by omega)
  rw [e, show (8 * (size : Int)).toNat = 8 * size by omega, Nat.min_eq_left (by show 8 * size ≤ 64; omega), Int.fdiv_eq_ediv_of_nonneg _ (Int.le_of_lt (Int.pow_pos (by decide)))]
  exact Int.ediv_eq_zero_of_lt h0 hn
theorem QuT {n : Int} {i : Nat} (h : i < 7) : IntKind.u8.wrap (n.fdiv (2 ^ (min (IntKind.i64.wrap (8 * (i : Int))).toNat IntKind.i64.bits))) = putB n i := by
  unfold putB
  rw [show IntKind.u64.wrap (IntKind.i64.wrap (8 * (i : Int))) = IntKind.i64.wrap (8 * (i : Int)) by rw [Qa _ (by omega) (by omega), IntKind.wrap_u64]; omega]
theorem Qum {n : Int} {size k : Nat} (h : k < size) : catB [QP 1 fun _ _ => .int .u8 (putB n (size - 1 - k)), sufS n size k] = sufS n size (k + 1) := by
  show (ByteArray.empty ++ QP 1 _) ++ sufS n size k = _
  rw [ByteArray.empty_append]
  unfold sufS
  apply ByteArray.ext
  rw [ByteArray.data_append]
  unfold QP
  apply Array.toList_inj.1
  rw [Array.toList_append]
  simp only [List.toList_toArray]
  rw [show List.range 1 = [0] from rfl, List.range_succ_eq_map]
  simp only [List.map_cons, List.map_nil, List.map_map, List.singleton_append]
  refine List.cons_eq_cons.2 ⟨?_, List.map_congr_left fun i _ => ?_⟩
  · exact congrArg (fun m => QcW (.int .u8 (putB n m))) (by omega)
  · exact congrArg (fun m => QcW (.int .u8 (putB n m))) (by show _ = size - (k + 1) + (i + 1); omega)
set_option maxHeartbeats 2000000 in
theorem QeU (n : Int) (size : Nat) (h1 : 1 ≤ size) (h7 : size ≤ 7) (h0 : 0 ≤ n) (hn : n < 2 ^ (8 * size)) : PS 180 [.c (.int .i64 n), .c (.int .i64 size)] (.t [.inl (.str (putS n size)), .inl (.int .i64 0)]) := by
  have hz := Qt8 h1 h7 h0 hn
  have hw : 0 ≤ IntKind.i64.wrap (8 * (size : Int)) := by rw [Qa _ (by omega) (by omega)]; omega
  refine PSpec.rm ?_
  refine ov0 hΓ Tryz.func180 42 0 [.tmp 4, .tmp 5] Tryz.ntmps180 Tryz.results180 ?_
  refine Br.no (by rw [hz]; simp; omega) (Go0 ?_)
  have w1 := Qa ((size : Int) - 1) (by omega) (by omega)
  refine Lp.mkK hΓ (ι := Nat) [0, 4, 5] (fun k => [(7, .c (.int .i64 ((size : Int) - 1 - k))), (6, .c (.str (sufS n size k)))]) (fun _ => []) (fun k => k ≤ size) (fun k => size - k) 0 (Nat.zero_le _) ?_ ?_
  · exact Mv.k0
  · intro k hk
    refine Go0 ?_
    refine Br.of (fun h2=>?_) (fun h2=>?_)<;>(try simp only [Int.toNat_natCast] at h2)<;>(conv=>whnf)
    · have ei : (size : Int) - 1 - k = ((size - 1 - k : Nat) : Int) := by omega
      have hw2 : 0 ≤ IntKind.i64.wrap (8 * ((size : Int) - 1 - k)) := by rw [Qa _ (by omega) (by omega)]; omega
      have w2 := Qa ((size : Int) - 1 - k - 1) (by omega) (by omega)
      refine Go0 ?_
      refine Need.mk (fun i hi => ⟨_, by obtain rfl : i = 0 := by omega
                                         rfl⟩) ?_
      refine Go0 ?_
      have hb : IntKind.u8.wrap (n.fdiv (2 ^ min (IntKind.i64.wrap (8 * ((size : Int) - 1 - k))).toNat IntKind.i64.bits)) = putB n (size - 1 - k) := by rw [ei]; exact QuT (by omega)
      rw [hb]
      refine CallN.reads Qi0 (Qjg [QP 1 fun _ _ => .int .u8 (putB n (size - 1 - k)), sufS n size k] (by simp) (fun x hx => by
        rcases List.mem_cons.1 hx with rfl | hx
        · rw [Qbf]; omega
        · rw [List.mem_singleton.1 hx]
          unfold sufS
          rw [Qbf]; omega)) (BwA.cons (BwS.c (Bw.sl rfl rfl (fun i hi j hj => by
            match i, hi with
            | 0, _ =>
              have hj : j < 1 := hj
              obtain rfl : j = 0 := by omega
              exact Bw.same (c := .str (QP 1 fun _ _ => .int .u8 (putB n (size - 1 - k)))) rfl
            | 1, _ =>
              have hj : j < 1 := hj
              obtain rfl : j = 0 := by omega
              exact Bw.same (c := .str (sufS n size k)) rfl) (fun e => by cases e))) BwA.nil) rfl ?_
      refine Go0 ?_
      rw [Qum (by omega)]
      refine ⟨k + 1, by omega, by omega, ?_⟩
      exact Mv.k0
    · refine Go0 ?_
      have : k = size := by omega
      subst this
      rw [Quo]
      exact RM.i0
theorem Qfj : HB 180 := hB Tryz.func180
theorem Qhp (b : ByteArray) (hb : b.size ≤ 10000000) : PS 151 [.c (.str b)] (.c (.int .u32 (addU 0 b))) := by
 refine PSpec.rm ?_
 refine ov0 hΓ Tryz.func151 5 0 [.tmp 2] Tryz.ntmps151 Tryz.results151 ?_
 refine CallN.pureA QkU (Qkn 0 b hb ) (Go0 ?_)
 exact RM.i0
theorem Qg6 : HB 151 := hB Tryz.func151
theorem Qs3 (b : ByteArray) (hb : b.size ≤ 1000) : PS 172 [.c (.str b), .c (.int .i64 20)] (.c (.str (padS b))) := by
 refine PSpec.rm ?_
 refine ov hΓ Tryz.func172 18 0 [.tmp 4] Tryz.ntmps172 Tryz.results172 ?_
 refine Go1 fun _h=>?_
 by_cases h : b.size < 20
 ·refine Br.no (decide_eq_false (by omega)) ?_
  have w0 : IntKind.i64.wrap ((20 : Int) - b.size) = ((20 - b.size : Nat) : Int) := by rw [Qa _ (by omega) (by omega)]; omega
  refine Go1 fun _h=>?_
  rw [w0]
  refine CallN.pureA Qux (Qtw (20 - b.size) (by omega) ) (Go0 ?_)
  refine CallN.reads Qi0 (Qjg [b, QP (20 - b.size) fun _ _ => .int .u8 0] (by simp) (fun x hx => by
   rcases List.mem_cons.1 hx with rfl | hx
   ·exact hb
   ·rw [List.mem_singleton.1 hx, Qbf]; omega)) (BwA.cons (BwS.c (Bw.sl rfl rfl (fun i hi j hj => by
    match i, hi with
    | 0, _ =>
     have hj : j < 1 := hj
     obtain rfl : j = 0 := by omega
     exact Bw.same (c := .str b) rfl
    | 1, _ =>
     have hj : j < 1 := hj
     obtain rfl : j = 0 := by omega
     exact Bw.same (c := .str (QP (20 - b.size) fun _ _ => .int .u8 0)) rfl) (fun e => by cases e))) BwA.nil) rfl ?_
  refine Go0 ?_
  rw [show padS b = catB [b, QP (20 - b.size) fun _ _ => .int .u8 0] by
   show _ = (ByteArray.empty ++ b) ++ _
   rw [ByteArray.empty_append]
   exact if_pos h]
  exact RM.i0
 ·refine Br.yes (decide_eq_true (by omega)) (Go0 ?_)
  rw [show padS b = b from if_neg h]
  exact RM.i0
theorem QsM : HB 172 := hB Tryz.func172
theorem Qda (n : Int) (size : Nat) (h1 : 1 ≤ size) (h7 : size ≤ 7) (h0 : 0 ≤ n) (hn : n < 2 ^ (8 * size)) : PS 171 [.c (.int .i64 n), .c (.int .i64 size)] (.c (.str (putS n size))) := by
 refine PSpec.rm ?_
 refine ov0 hΓ Tryz.func171 14 0 [.tmp 4] Tryz.ntmps171 Tryz.results171 ?_
 refine CallN.pureA Qfj (QeU n size h1 h7 h0 hn ) (Go0 ?_)
 exact RM.i0
theorem Qc4 : HB 171 := hB Tryz.func171
set_option maxHeartbeats 2000000 in
theorem Qo5 (r : Rec) : PS 169 [.a r.cells] (.c (.int .i64 (QC r))) := by
 refine PSpec.rm ?_
 refine ov0 hΓ Tryz.func169 63 0 [.tmp 2] Tryz.ntmps169 Tryz.results169 ?_
 by_cases h1 : 1 ≤ r.kind ∧ r.kind ≤ 6
 ·refine Br.no (by simp; omega) (Go0 ?_)
  by_cases h2 : 0 ≤ r.block ∧ r.block ≤ 4294967295 ∧ 0 ≤ r.version ∧ r.version ≤ 1099511627776 ∧ 0 ≤ r.move ∧ r.move ≤ 255
  ·refine Br.no (by simp; omega) (Go1 fun _h=>?_)
   by_cases h3 : r.payload.size ≤ 20 ∧ (r.kind = 1 → r.payload.size = 16) ∧ (r.kind = 2 → r.payload.size = 0)
   ·refine Br.no (by
     obtain ⟨a, b, c⟩ := h3
     by_cases k1 : r.kind = 1
     ·have := b k1
      simp [k1, this]
     ·by_cases k2 : r.kind = 2
      ·have := c k2
       simp [k2, this]
      ·simp [k1, k2]; omega) ?_
    refine Go0 ?_
    rw [show QC r = 0 by unfold QC; rw [if_pos (decide_eq_true h1), if_pos (decide_eq_true h2), if_pos (decide_eq_true h3)]]
    exact RM.i0
   ·refine Br.yes (Decidable.byContradiction fun z => h3 (by
     have z := Bool.eq_false_iff.2 z
     by_cases k1 : r.kind = 1
     ·simp [k1] at z; omega
     ·by_cases k2 : r.kind = 2
      ·simp [k2] at z
       have := z.2
       refine ⟨by omega, by omega, fun _ => ?_⟩
       simp_all
      ·simp [k1, k2] at z; omega)) ?_
    refine Go0 ?_
    rw [show QC r = 2 by unfold QC; rw [if_pos (decide_eq_true h1), if_pos (decide_eq_true h2), if_neg (by rw [decide_eq_true_eq]; exact h3)]]
    exact RM.i0
  ·refine Br.yes (Decidable.byContradiction fun z => h2 (by
    have z := Bool.eq_false_iff.2 z
    simp at z
    omega)) ?_
   refine Go0 ?_
   rw [show QC r = 1 by unfold QC; rw [if_pos (decide_eq_true h1), if_neg (by rw [decide_eq_true_eq]; exact h2)]]
   exact RM.i0
 ·refine Br.yes (Decidable.byContradiction fun z => h1 (by
   have z := Bool.eq_false_iff.2 z
   simp at z
   omega)) ?_
  refine Go0 ?_
  rw [show QC r = 3 by unfold QC; rw [if_neg (by rw [decide_eq_true_eq]; exact h1)]]
  exact RM.i0
theorem Qo0 : HB 169 := hB Tryz.func169
theorem WC.strs {ρ : Nat → Nat} {n m : Nat} {t : Bool} {g : Nat → Nat → C} {l : List ByteArray} (hm : m = l.length) (hg : ∀ i, i < m → g i 0 = .str (l.getD i ByteArray.empty)) : WC ρ n (.isl 1 m g t) (Qbq l) :=
 WC.isl hm (fun i hi j hj => by
  obtain rfl : j = 0 := by omega
  exact hg i hi) (fun e => by cases e)
def Qhk (r : Rec) : List ByteArray := [⟨#[90, 65]⟩, putS r.kind 1, putS r.payload.size 1, putS r.block 4, putS r.version 6, putS r.move 1, ⟨#[0]⟩, padS r.payload]
theorem Qrz (r : Rec) : catB (Qhk r) = QaJ r := by
 unfold catB Qhk QaJ
 simp only [List.foldl_cons, List.foldl_nil, ByteArray.empty_append]
theorem Qof {r : Rec} (h : QC r = 0) : ∀ x ∈ Qhk r, x.size ≤ 1000 := fun x hx => by
 obtain ⟨h1, h2, h3⟩ := QaR h
 have hp := Qbu r.payload h3
 simp only [Qhk, List.mem_cons, List.mem_nil_iff, or_false] at hx
 rcases hx with rfl | rfl | rfl | rfl | rfl | rfl | rfl | rfl <;> first | (rw [Qp]; omega) | (rw [hp]; omega) | decide
theorem Quw {r : Rec} (h : QC r = 0) : (QaJ r).size = 36 := by
 obtain ⟨h1, h2, h3⟩ := QaR h
 unfold QaJ
 simp only [ByteArray.size_append, Qp, Qbu r.payload h3]
 rfl
set_option maxHeartbeats 4000000 in
theorem Qhh (r : Rec) : PS 153 [.a r.cells] (.t [.inl (.str (encR r)), .inl (.int .i64 (QC r))]) := by
 refine PSpec.rm ?_
 refine ov0 hΓ Tryz.func153 39 0 [.tmp 2, .tmp 3] Tryz.ntmps153 Tryz.results153 ?_
 refine CallN.pureA Qo0 (Qo5 r ) (Go0 ?_)
 by_cases h : QC r = 0
 ·obtain ⟨h1, h2, h3⟩ := QaR h
  refine Br.no (by rw [h]; rfl) (Go0 ?_)
  refine Dr.mkE hΓ hMix [4294967296] [] (by kernel_rfl) (Go0 ?_)
  refine CallP.auto Qc4 (Qda r.kind 1 (by omega) (by omega) (by omega) (by omega) ) (Go0 ?_)
  refine CallP.auto Qc4 (Qda (r.payload.size : Int) 1 (by omega) (by omega) (by omega) (by omega) ) (Go0 ?_)
  refine CallP.auto Qc4 (Qda r.block 4 (by omega) (by omega) (by omega) (by omega) ) (Go0 ?_)
  refine CallP.auto Qc4 (Qda r.version 6 (by omega) (by omega) (by omega) (by omega) ) (Go0 ?_)
  refine CallP.auto Qc4 (Qda r.move 1 (by omega) (by omega) (by omega) (by omega) ) (Go0 ?_)
  refine CallP.auto QsM (Qs3 r.payload (by omega) ) (Go0 ?_)
  refine CallP.mkW QjN (Qjf (Qhk r) leN (Qof h)) (WA.cons rfl (WS.c (WC.strs rfl (fun i hi => by
   match i, hi with
   | 0, _ => rfl
   | 1, _ => rfl
   | 2, _ => rfl
   | 3, _ => rfl
   | 4, _ => rfl
   | 5, _ => rfl
   | 6, _ => rfl
   | 7, _ => rfl))) WA.nil) rfl ?_
  rw [Qrz]
  refine Go0 ?_
  have hbs := Quw h
  have ha := QhI 0 (QaJ r)
  have hw := Qa (addU 0 (QaJ r)) (by omega) (by omega)
  refine CallN.pureA Qg6 (Qhp (QaJ r) (by omega) ) (Go0 ?_)
  refine CallN.pureA Qc4 (Qda (IntKind.i64.wrap (addU 0 (QaJ r))) 4 (by omega) (by omega) (by omega) (by omega) ) (Go0 ?_)
  refine CallN.reads QjN (Qjf [QaJ r, putS (IntKind.i64.wrap (addU 0 (QaJ r))) 4] (by simp) (fun x hx => by
   rcases List.mem_cons.1 hx with rfl | hx
   ·omega
   ·rw [List.mem_singleton.1 hx, Qp]; omega)) (BwA.cons (BwS.c (Bw.sl rfl rfl (fun i hi j hj => by
    match i, hi with
    | 0, _ =>
     have hj : j < 1 := hj
     obtain rfl : j = 0 := by omega
     exact Bw.same (c := .str (QaJ r)) rfl
    | 1, _ =>
     have hj : j < 1 := hj
     obtain rfl : j = 0 := by omega
     exact Bw.same (c := .str (putS (IntKind.i64.wrap (addU 0 (QaJ r))) 4)) rfl) (fun e => by cases e))) BwA.nil) rfl ?_
  refine Go0 ?_
  rw [h, show encR r = catB [QaJ r, putS (IntKind.i64.wrap (addU 0 (QaJ r))) 4] by
   show _ = (ByteArray.empty ++ QaJ r) ++ _
   rw [ByteArray.empty_append]
   exact if_pos h]
  exact RM.i0
 ·refine Br.yes (by simpa using h) (Go0 ?_)
  rw [show encR r = ByteArray.empty from if_neg h]
  exact RM.i0
theorem Qht : HB 153 := hB Tryz.func153
theorem Qld (b : ByteArray) (k : Nat) : 0 ≤ Qca b k ∧ Qca b k < 256 := by
 have h : (b.data.toList.getD k 0).toNat < 256 := UInt8.toNat_lt _
 unfold Qca
 rw [Qa _ (by omega) (by omega)]
 omega
theorem Qv7 {y : Int} (h : 0 ≤ y ∧ y < 256) : orW (shW 0) y = y := by
 obtain ⟨n, rfl⟩ := Int.eq_ofNat_of_zero_le h.1
 have e0 : shW 0 = 0 := by decide
 rw [e0]
 unfold orW
 have e1 : (BitVec.ofInt IntKind.i64.bits 0 ||| BitVec.ofInt IntKind.i64.bits (n : Int)).toNat = n := by
  show (BitVec.ofInt 64 0 ||| BitVec.ofInt 64 (n : Int)).toNat = n
  rw [show BitVec.ofInt 64 0 = 0#64 from rfl, BitVec.zero_or]
  rw [BitVec.toNat_ofInt]
  omega
 rw [e1]
 exact Qa _ (by omega) (by omega)
theorem QeK {s : ByteArray} {p : Nat} (h : p < s.size) : getS s p 1 = Qca s p := by
 unfold getS
 rw [if_neg (by omega)]
 show orW (shW 0) (Qca s (p + (1 - 1 - 0))) = _
 exact Qv7 (Qld s p)
theorem Qs1 {r : Rec} (h : QC r = 0) : Qca (encR r) 3 = r.payload.size := by
 obtain ⟨_, _, h3⟩ := QaR h
 have e : (encR r).data.toList.getD 3 0 = QcW (.int .u8 (putB r.payload.size 0)) := by
  rw [show encR r = QaJ r ++ putS (IntKind.i64.wrap (addU 0 (QaJ r))) 4 from if_pos h]
  unfold QaJ
  simp only [ByteArray.data_append, Array.toList_append, List.append_assoc]
  rfl
 unfold Qca
 rw [e]
 have hp : putB r.payload.size 0 = r.payload.size := by
  show IntKind.u8.wrap ((r.payload.size : Int).fdiv 1) = _
  rw [Int.fdiv_one, IntKind.wrap_u8]
  omega
 rw [hp]
 have hc : (QcW (.int .u8 (r.payload.size : Int))).toNat = r.payload.size := by
  generalize hn : r.payload.size = n at *
  have : n ≤ 20 := h3
  unfold QcW
  simp
  omega
 rw [hc]
 exact Qa _ (by omega) (by omega)
set_option maxHeartbeats 4000000 in
theorem Qhl (s : ByteArray) : PS 116 [.c (.str s)] (.t [.inr (decR s).cells, .inl (.int .i64 (decE s))]) := by
 refine PSpec.rm ?_
 refine ov hΓ Tryz.func116 70 0 [.cell 2 50, .tmp 3] Tryz.ntmps116 Tryz.results116 ?_
 refine Go1 fun _h=>?_
 by_cases h0 : s.size = 40
 ·refine Br.no (by simp [h0]) (Go0 ?_)
  have hb : s.size ≤ 10000000 := by omega
  refine CallN.pureA Qcy (QcE s 36 4 (by decide) (by decide) (by decide) hb ) (Go0 ?_)
  refine CallN.pureA Qg6 (Qhp (s.extract 0 36) (by rw [ByteArray.size_extract]; omega) ) (Go0 ?_)
  by_cases h1 : getS s 36 4 = sumW (s.extract 0 36)
  ·refine Br.no (by rw [h1]; exact bne_self_eq_false _) (Go0 ?_)
   have e3 : IntKind.i64.wrap ((s.data.toList.getD 3 0).toNat : Int) = getS s 3 1 := (QeK (by omega)).symm
   have e2 : IntKind.i64.wrap ((s.data.toList.getD 2 0).toNat : Int) = getS s 2 1 := (QeK (by omega)).symm
   have e14 : IntKind.i64.wrap ((s.data.toList.getD 14 0).toNat : Int) = getS s 14 1 := (QeK (by omega)).symm
   have g3 : 0 ≤ getS s 3 1 ∧ getS s 3 1 < 256 := by rw [QeK (by omega)]; exact Qld s 3
   have t3 : Int.toNat 3 = 3 := rfl
   have t2 : Int.toNat 2 = 2 := rfl
   have t14 : Int.toNat 14 = 14 := rfl
   rw [t3, e3]
   by_cases h5 : getS s 3 1 ≤ 20
   ·refine Br.no (decide_eq_false (by omega)) ?_
    have w3 := Qa (16 + getS s 3 1) (by omega) (by omega)
    refine Go0 ?_
    refine Dr.mk hΓ hMix (by kernel_rfl) (Go0 ?_)
    rw [w3]
    refine Go0 ?_
    refine CallP.auto Qpa (Qpl (s.extract 16 (16 + getS s 3 1).toNat) (by rw [ByteArray.size_extract]; omega) ) (Go0 ?_)
    refine CallN.pureA Qcy (QcE s 4 4 (by decide) (by decide) (by decide) hb ) (Go0 ?_)
    refine CallN.pureA Qcy (QcE s 8 6 (by decide) (by decide) (by decide) hb ) (Go0 ?_)
    rw [t2, t14, e2, e14]
    have er : rawR s = ⟨getS s 2 1, getS s 4 4, getS s 8 6, getS s 14 1, s.extract 16 (16 + getS s 3 1).toNat⟩ := by
     unfold rawR
     rw [Int.min_eq_left h5]
    refine CallN.pureA Qht (Qhh ⟨getS s 2 1, getS s 4 4, getS s 8 6, getS s 14 1, s.extract 16 (16 + getS s 3 1).toNat⟩ ) ?_
    rw [← er]
    refine Go0 ?_
    by_cases h2 : QC (rawR s) = 0 ∧ encR (rawR s) = s
    ·refine Br.no (by rw [h2.1, h2.2]; simp) (Go0 ?_)
     have e : decE s = 0 := by unfold decE; rw [if_pos h0, if_pos h1, if_pos h2]
     rw [show decR s = rawR s from if_pos e, e, er]
     exact RM.i0
    ·refine Br.yes (by
      refine Decidable.byContradiction fun z => h2 ?_
      simp at z
      exact z) ?_
     refine Go0 ?_
     have e : decE s = 3 := by unfold decE; rw [if_pos h0, if_pos h1, if_neg h2]
     rw [show decR s = default from if_neg (by rw [e]; decide), e]
     exact RM.i0
   ·refine Br.yes (decide_eq_true (by omega)) (Go0 ?_)
    have e : decE s = 3 := by
     unfold decE
     rw [if_pos h0, if_pos h1, if_neg]
     rintro ⟨a, b⟩
     have := Qs1 a
     rw [b, ← QeK (by omega)] at this
     have hp : (rawR s).payload.size ≤ 20 := (QaR a).2.2
     omega
    rw [show decR s = default from if_neg (by rw [e]; decide), e]
    exact RM.i0
  ·refine Br.yes (bne_iff_ne.2 h1) (Go0 ?_)
   have e : decE s = 4 := by unfold decE; rw [if_pos h0, if_neg h1]
   rw [show decR s = default from if_neg (by rw [e]; decide), e]
   exact RM.i0
 ·refine Br.yes (by simp; omega) (Go0 ?_)
  have e : decE s = 2 := if_neg h0
  rw [show decR s = default from if_neg (by rw [e]; decide), e]
  exact RM.i0
theorem Qhn : HB 116 := hB Tryz.func116
theorem Qj9 {l : List Fnd} {z o : Int} {r : Rec} {t : List C} {n i j : Nat} (hn : n = l.length) (hi : i < l.length + 1) (hj : j < 7) : appG (fndG l) n (Q4 7 (C.int .i64 z :: C.int .i64 o :: C.int .i64 r.kind :: C.int .i64 r.block :: C.int .i64 r.version :: C.int .i64 r.move :: C.str r.payload :: t)) i j = fndG (l ++ [⟨z, o, r⟩]) i j :=
 Qd7 (f := Fnd.cell) hn (fun j hj => by
  match j, hj with
  | 0, _ => rfl
  | 1, _ => rfl
  | 2, _ => rfl
  | 3, _ => rfl
  | 4, _ => rfl
  | 5, _ => rfl
  | 6, _ => rfl) hi hj
theorem Qec (z : Int) (l : List ByteArray) : ∀ k, (Qa6 z l k).length ≤ k
 | 0 => Nat.le_refl _
 | k + 1 => by
  have := Qec z l k
  simp only [Qa6, List.length_append]
  unfold Qc8
  split <;> simp <;> omega
theorem Fw.fnds {H : List O} {id e n t : Nat} {x : Bool} {g : Nat → Nat → C} {l : List Fnd} (hid : getL H id = some (.arr e 7 n g)) (ht : t = n) (hn : n = l.length) (hg : ∀ i, i < n → ∀ j, j < 7 → g i j = fndG l i j) : Fw H (.sl id 7 t t x) (Qb5 l) := by
 subst ht
 exact Fw.slP hid rfl hn hg (fun _ _ => Qv _ _)
theorem QeW {z : Int} {S : List ByteArray} {k : Nat} : Qa6 z S (k + 1) = Qa6 z S k ++ Qc8 z k (S.getD k ByteArray.empty) := rfl
theorem blockR_iff {s : ByteArray} : ((Qau s).2 = true ↔ decE s = 0 ∧ QdM (decR s) = true) ∧ ((Qau s).2 = true → (Qau s).1 = decR s) := by
 unfold Qau
 split <;> simp_all
theorem scan_cond {s : ByteArray} : (bif (bif decE s == 0 then (bif (decR s).kind == 1 then true else (decR s).kind == 2) else false) then decide ((decR s).version ≥ 1) else false) = true ↔ ((Qau s).2 = true ∧ 1 ≤ (Qau s).1.version) := by
 have h := blockR_iff (s := s)
 constructor
 ·intro q
  simp only [Bool.cond_eq_ite] at q
  have a : (Qau s).2 = true := h.1.2 (by unfold QdM; simp at q ⊢; omega)
  refine ⟨a, ?_⟩
  rw [h.2 a]
  simp at q
  omega
 ·rintro ⟨a, b⟩
  rw [h.2 a] at b
  have a := h.1.1 a
  unfold QdM at a
  simp at a
  simp [a.1, b]
  omega
set_option maxHeartbeats 2000000 in
theorem QoZ (d : Dev) (hd : d.small) (z : Int) : PS 62 [.a d.cells, .c (.int .i64 z)] (.c (Qb5 (QcV d z))) := by
 have hz := hd.z
 have hsz := hd.s
 refine PSpec.rm ?_
 refine ov0 hΓ Tryz.func62 54 0 [.tmp 4] Tryz.ntmps62 Tryz.results62 ?_
 by_cases h : 0 ≤ z ∧ z < d.zones.length
 ·have hl := hsz z.toNat
  refine Br.no (Bool.eq_false_iff.2 fun q => by simp at q; omega) (Go0 ?_)
  rw [show QcV d z = Qa6 z (d.zones.getD z.toNat default).sectors (d.zones.getD z.toNat default).sectors.length from if_pos h]
  generalize hS : (d.zones.getD z.toNat default).sectors = S at *
  refine Lp.reserve 71 7 (fndG []) 5 rfl ?_
  refine Lp.mkK hΓ (ι := Nat) [1, 6] (fun k => [(7, .c (.int .i64 k)), (5, .c (.sl 1 7 (Qa6 z S k).length (Qa6 z S k).length false))]) (fun k => [.vr d.cells, .arr 71 7 (Qa6 z S k).length (fndG (Qa6 z S k))]) (fun k => k ≤ S.length) (fun k => S.length - k) 0 (Nat.zero_le _) ?_ ?_
  ·exact Mv.k0
  ·intro k hk
   have hkl := Qec z S k
   refine Go1 fun _h=>?_
   refine Br.of (fun h1=>Go0 ?_) (fun h1=>Go0 ?_)
   ·have w0 := Qa (↑k + 1) (by omega) (by omega)
    refine CallN.pureA QoB (Qo8 (S.getD k ByteArray.empty) ) (Go0 ?_)
    by_cases c : (Qau (S.getD k ByteArray.empty)).2 = true ∧ 1 ≤ (Qau (S.getD k ByteArray.empty)).1.version
    ·have e1 : Qc8 z k (S.getD k ByteArray.empty) = [⟨z, k, (Qau (S.getD k ByteArray.empty)).1⟩] := if_pos c
     refine Br.yes (by simpa [-List.getD_eq_getElem?_getD] using c) ?_
     refine Go0 ?_
     refine ⟨k + 1, by omega, by omega, ?_⟩
     rw [QeW, e1]
     refine Mv.k1 ?_
     exact fun i hi j hj => WC.eq (Qj9 rfl (by simpa using hi) hj) (Qv _ _)
    ·have e1 : Qc8 z k (S.getD k ByteArray.empty) = [] := if_neg c
     refine Br.no (Bool.eq_false_iff.2 fun q => c (by simpa [-List.getD_eq_getElem?_getD] using q)) ?_
     refine Go0 ?_
     refine ⟨k + 1, by omega, by omega, ?_⟩
     rw [QeW, e1, List.append_nil]
     exact Mv.k0
   ·have : k = S.length := by omega
    subst this
    exact RM.allC (Fw.fnds rfl rfl rfl (fun _ _ _ _ => rfl))
 ·rw [show QcV d z = [] from if_neg h]
  refine Br.yes (Decidable.byContradiction fun q => h (by simp at q; omega)) (Go0 ?_)
  exact RM.i0
theorem Qox : HB 62 := hB Tryz.func62
set_option maxHeartbeats 2000000 in
theorem QqP (d : Dev) (hd : d.small) (z : Int) : PS 84 [.a d.cells, .c (.int .i64 z)] (.c (Qb5 (QcV d z))) := by
 have hz := hd.z
 have hsz := hd.s
 refine PSpec.rm ?_
 refine ov0 hΓ Tryz.func84 63 0 [.tmp 4] Tryz.ntmps84 Tryz.results84 ?_
 by_cases h : 0 ≤ z ∧ z < d.zones.length
 ·have hl := hsz z.toNat
  refine Br.no (Bool.eq_false_iff.2 fun q => by simp at q; omega) (Go1 fun _h=>?_)
  rw [show QcV d z = Qa6 z (d.zones.getD z.toNat default).sectors (d.zones.getD z.toNat default).sectors.length from if_pos h]
  generalize hS : (d.zones.getD z.toNat default).sectors = S at *
  refine Lp.reserve 71 7 (fndG []) 5 rfl ?_
  refine Lp.mkK hΓ (ι := Nat) [1, 24, 25] (fun k => [(26, .c (.int .i64 k)), (5, .c (.sl 1 7 (Qa6 z S k).length (Qa6 z S k).length false))]) (fun k => [.vr d.cells, .arr 71 7 (Qa6 z S k).length (fndG (Qa6 z S k))]) (fun k => k ≤ S.length) (fun k => S.length - k) 0 (Nat.zero_le _) ?_ ?_
  ·exact Mv.k0
  ·intro k hk
   have hkl := Qec z S k
   refine Go0 ?_
   refine Br.of (fun h1=>Go0 ?_) (fun h1=>Go0 ?_)
   ·have w0 := Qa (↑k + 1) (by omega) (by omega)
    refine CallN.pureA Qhn (Qhl (S.getD k ByteArray.empty) ) (Go0 ?_)
    have hb := blockR_iff (s := S.getD k ByteArray.empty)
    by_cases c : (Qau (S.getD k ByteArray.empty)).2 = true ∧ 1 ≤ (Qau (S.getD k ByteArray.empty)).1.version
    ·have e1 : Qc8 z k (S.getD k ByteArray.empty) = [⟨z, k, (Qau (S.getD k ByteArray.empty)).1⟩] := if_pos c
     have hd1 := hb.2 c.1
     rw [hd1] at e1
     refine Br.yes (scan_cond.2 c) (Go0 ?_)
     refine ⟨k + 1, by omega, by omega, ?_⟩
     rw [QeW, e1]
     refine Mv.k1 ?_
     exact fun i hi j hj => WC.eq (Qj9 rfl (by simpa using hi) hj) (Qv _ _)
    ·have e1 : Qc8 z k (S.getD k ByteArray.empty) = [] := if_neg c
     refine Br.no (Bool.eq_false_iff.2 fun q => c (scan_cond.1 q)) (Go0 ?_)
     refine ⟨k + 1, by omega, by omega, ?_⟩
     rw [QeW, e1, List.append_nil]
     exact Mv.k0
   ·have : k = S.length := by omega
    subst this
    exact RM.allC (Fw.fnds rfl rfl rfl (fun _ _ _ _ => rfl))
 ·rw [show QcV d z = [] from if_neg h]
  refine Br.yes (Decidable.byContradiction fun q => h (by simp at q; omega)) (Go0 ?_)
  exact RM.i0
theorem Qp6 : HB 84 := hB Tryz.func84
structure _root_.Go.Am.Dev.tiny (d : Dev) : Prop where
 z : d.zones.length ≤ 100
 s : ∀ i, (d.zones.getD i default).sectors.length ≤ 100
theorem _root_.Go.Am.Dev.tiny.small {d : Dev} (h : d.tiny) : d.small := ⟨by have := h.z; omega, fun i => by have := h.s i; omega⟩
theorem Qgi {d : Dev} (hd : d.tiny) (z : Int) : (QcV d z).length ≤ 100 := by
 unfold QcV
 split
 ·exact Nat.le_trans (Qec _ _ _) (hd.s _)
 ·simp
theorem QdR (c : Conf) {d : Dev} (hd : d.tiny) : ∀ k, (Qag c d k).length ≤ 100 * k
 | 0 => Nat.le_refl _
 | k + 1 => by
  have h1 := QdR c hd k
  have h2 := Qgi hd k
  simp only [Qag]
  split
  ·rw [List.length_append]; omega
  ·omega
theorem Qle (c : Conf) {d : Dev} (hd : d.tiny) : (QaW c d).length ≤ 10000 := by
 have h1 := QdR c hd d.zones.length
 have h2 := hd.z
 unfold QaW
 omega
theorem Qeg {c : Conf} {d : Dev} {k : Nat} : Qag c d (k + 1) = if QaS c k = true then Qag c d k ++ QcV d k else Qag c d k := rfl
set_option maxHeartbeats 2000000 in
theorem QjG (c : Conf) (d : Dev) (hd : d.tiny) : PS 21 [.a c.cells, .a d.cells] (.c (Qb5 (QaW c d))) := by
 have hz := hd.z
 refine PSpec.rm ?_
 refine ov0 hΓ Tryz.func21 23 0 [.tmp 4] Tryz.ntmps21 Tryz.results21 ?_
 refine Lp.reserve 71 7 (fndG []) 5 rfl ?_
 refine Lp.mkK hΓ (ι := Nat) [2, 3] (fun k => [(6, .c (.int .i64 k)), (5, .c (.sl 2 7 (Qag c d k).length (Qag c d k).length false))]) (fun k => [.vr c.cells, .vr d.cells, .arr 71 7 (Qag c d k).length (fndG (Qag c d k))]) (fun k => k ≤ d.zones.length) (fun k => d.zones.length - k) 0 (Nat.zero_le _) ?_ ?_
 ·exact Mv.k0
 ·intro k hk
  have hkl := QdR c hd k
  have hkz := Qgi hd k
  refine Go1 fun _h=>?_
  refine Br.of (fun h1=>Go0 ?_) (fun h1=>Go0 ?_)
  ·have w0 := Qa (↑k + 1) (by omega) (by omega)
   refine CallN.pureA QnC (QmI c k ) (Go0 ?_)
   by_cases h : QaS c k = true
   ·refine Br.yes h (Go0 ?_)
    refine CallN.pureA Qox (QoZ d hd.small k ) (Go0 ?_)
    refine ⟨k + 1, by omega, by omega, ?_⟩
    rw [Qeg, if_pos h]
    refine Mv.k1 ?_
    exact fun i hi j hj => WC.eq (Qnt rfl j) (Qv _ _)
   ·refine Br.no (Bool.eq_false_iff.2 h) (Go0 ?_)
    refine ⟨k + 1, by omega, by omega, ?_⟩
    rw [Qeg, if_neg h]
    exact Mv.k0
  ·have : k = d.zones.length := by omega
   subst this
   exact RM.allC (Fw.fnds rfl rfl rfl (fun _ _ _ _ => rfl))
theorem QiG : HB 21 := hB Tryz.func21
set_option maxHeartbeats 2000000 in
theorem Qr6 (c : Conf) (d : Dev) (hd : d.tiny) : PS 43 [.a c.cells, .a d.cells] (.c (Qb5 (QaW c d))) := by
 have hz := hd.z
 refine PSpec.rm ?_
 refine ov hΓ Tryz.func43 23 0 [.tmp 4] Tryz.ntmps43 Tryz.results43 ?_
 refine Go1 fun _h=>?_
 refine Lp.reserve 71 7 (fndG []) 5 rfl ?_
 refine Lp.mkK hΓ (ι := Nat) [2, 3, 9] (fun k => [(10, .c (.int .i64 k)), (5, .c (.sl 2 7 (Qag c d k).length (Qag c d k).length false))]) (fun k => [.vr c.cells, .vr d.cells, .arr 71 7 (Qag c d k).length (fndG (Qag c d k))]) (fun k => k ≤ d.zones.length) (fun k => d.zones.length - k) 0 (Nat.zero_le _) ?_ ?_
 ·exact Mv.k0
 ·intro k hk
  have hkl := QdR c hd k
  have hkz := Qgi hd k
  refine Go0 ?_
  refine Br.of (fun h1=>Go0 ?_) (fun h1=>Go0 ?_)
  ·have w0 := Qa (↑k + 1) (by omega) (by omega)
   refine CallN.pureA Qmk (QnL c k ) (Go0 ?_)
   by_cases h : QaS c k = true
   ·refine Br.yes h (Go0 ?_)
    refine CallN.pureA Qp6 (QqP d hd.small k ) (Go0 ?_)
    refine ⟨k + 1, by omega, by omega, ?_⟩
    rw [Qeg, if_pos h]
    refine Mv.k1 ?_
    exact fun i hi j hj => WC.eq (Qnt rfl j) (Qv _ _)
   ·refine Br.no (Bool.eq_false_iff.2 h) (Go0 ?_)
    refine ⟨k + 1, by omega, by omega, ?_⟩
    rw [Qeg, if_neg h]
    exact Mv.k0
  ·have : k = d.zones.length := by omega
   subst this
   exact RM.allC (Fw.fnds rfl rfl rfl (fun _ _ _ _ => rfl))
theorem Qsj : HB 43 := hB Tryz.func43
theorem Qjq {l : List Fnd} {k : Nat} (hk : k < l.length) : Qcs (l.take (k + 1)) = max (Qcs (l.take k)) (l.getD k default).r.version := by
 unfold Qcs
 rw [Q6 l hk, List.foldl_append]
 rfl
set_option maxHeartbeats 2000000 in
theorem QgP (l : List Fnd) (hl : l.length ≤ 1000000) : PS 56 [.c (Qb5 l)] (.c (.int .i64 (Qcs l))) := by
 refine PSpec.rm ?_
 refine ov0 hΓ Tryz.func56 20 0 [.tmp 2] Tryz.ntmps56 Tryz.results56 ?_
 refine Lp.mkK hΓ (ι := Nat) [0] (fun k => [(4, .c (.int .i64 k)), (3, .c (.int .i64 (Qcs (l.take k))))]) (fun k => []) (fun k => k ≤ l.length) (fun k => l.length - k) 0 (Nat.zero_le _) ?_ ?_
 ·exact Mv.k0
 ·intro k hk
  refine Go1 fun _h=>?_
  refine Br.of (fun h1=>Go0 ?_) (fun h1=>Go0 ?_)
  ·have w0 := Qa (↑k + 1) (by omega) (by omega)
   refine ⟨k + 1, by omega, by omega, ?_⟩
   rw [Qjq (by omega)]
   exact Mv.k0
  ·have : k = l.length := by omega
   subst this
   rw [List.take_length]
   exact RM.i0
theorem Qg9 : HB 56 := hB Tryz.func56
set_option maxHeartbeats 2000000 in
theorem QoU (l : List Fnd) (hl : l.length ≤ 1000000) : PS 51 [.c (Qb5 l)] (.c (.int .i64 (Qcs l))) := by
 refine PSpec.rm ?_
 refine ov hΓ Tryz.func51 19 0 [.tmp 2] Tryz.ntmps51 Tryz.results51 ?_
 refine Go1 fun _h=>?_
 refine Lp.mkK hΓ (ι := Nat) [6,7] (fun k => [(8, .c (.int .i64 k)), (3, .c (.int .i64 (Qcs (l.take k))))]) (fun k => []) (fun k => k ≤ l.length) (fun k => l.length - k) 0 (Nat.zero_le _) ?_ ?_
 ·exact Mv.k0
 ·intro k hk
  refine Go0 ?_
  refine Br.of (fun h1=>Go0 ?_) (fun h1=>Go0 ?_)
  ·have w0 := Qa (↑k + 1) (by omega) (by omega)
   refine ⟨k + 1, by omega, by omega, ?_⟩
   rw [Qjq (by omega)]
   exact Mv.k0
  ·have : k = l.length := by omega
   subst this
   rw [List.take_length]
   exact RM.i0
theorem Qo4 : HB 51 := hB Tryz.func51
end Go.Proofs
end
