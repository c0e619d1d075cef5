/- Contracts, lemmas; no condition. -/
import Derived.Test.YtmollgldghpbkaaGreatEnvV
import Derived.Test.YtmollgldghpbkaaGreatModAV
import Derived.Test.YtmollgldghpbkaaGreatAmEV
import Derived.KernelRfl
set_option linter.all false
section
open Go Go.Am
namespace Go.Proofs
set_option maxRecDepth 20000
structure Evt where
 ret : Bool
 queue : Int
 serial : Int
 kind : Int
 block : Int
 data : ByteArray
 err : Int
 rdata : ByteArray
 deriving DecidableEq
instance : Inhabited Evt := ⟨⟨false, 0, 0, 0, 0, ByteArray.empty, 0, ByteArray.empty⟩⟩
def Evt.cell (e : Evt) : Nat → C
 | 0 => .bool e.ret
 | 1 => .int .i64 e.queue
 | 2 => .int .i64 e.serial
 | 3 => .int .i64 e.kind
 | 4 => .int .i64 e.block
 | 5 => .str e.data
 | 6 => .int .i64 e.err
 | 7 => .str e.rdata
 | _ => .junk
def Evt.cells (e : Evt) : List C := [.bool e.ret, .int .i64 e.queue, .int .i64 e.serial, .int .i64 e.kind, .int .i64 e.block, .str e.data, .int .i64 e.err, .str e.rdata]
def evG (l : List Evt) : Nat → Nat → C := rowG Evt.cell l
def evC (l : List Evt) : C := .isl 8 l.length (evG l) false
theorem QaP (e : Evt) (j : Nat) : (e.cell j).imm = true := by
 unfold Evt.cell; split <;> rfl
structure Conf where
 zones : Int
 size : Int
 blocks : Int
 queues : Int
 depth : Int
 shards : Int
 deriving DecidableEq
def Conf.cells (c : Conf) : List C := [.int .i64 c.zones, .int .i64 c.size, .int .i64 c.blocks, .int .i64 c.queues, .int .i64 c.depth, .int .i64 c.shards]
instance : Inhabited Conf := ⟨⟨0, 0, 0, 0, 0, 0⟩⟩
structure Ent where
 block : Int
 kind : Int
 version : Int
 move : Int
 zone : Int
 offset : Int
 deriving DecidableEq
instance : Inhabited Ent := ⟨⟨0, 0, 0, 0, 0, 0⟩⟩
def Ent.cells (e : Ent) : List C := [.int .i64 e.block, .int .i64 e.kind, .int .i64 e.version, .int .i64 e.move, .int .i64 e.zone, .int .i64 e.offset]
def Ent.cell (e : Ent) : Nat → C
 | 0 => .int .i64 e.block
 | 1 => .int .i64 e.kind
 | 2 => .int .i64 e.version
 | 3 => .int .i64 e.move
 | 4 => .int .i64 e.zone
 | 5 => .int .i64 e.offset
 | _ => .junk
def entG (l : List Ent) : Nat → Nat → C := rowG Ent.cell l
def Qaw (l : List Ent) : C := .isl 6 l.length (entG l) false
theorem Qao (e : Ent) (j : Nat) : (e.cell j).imm = true := by
 unfold Ent.cell; split <;> rfl
def QcZ (m : List (List Ent)) : Nat → Nat → C := rowG (fun l _ => Qaw l) m
def QH (m : List (List Ent)) : C := .isl 1 m.length (QcZ m) false
structure Ret where
 zone : Int
 epoch : Int
 deriving DecidableEq
instance : Inhabited Ret := ⟨⟨0, 0⟩⟩
def Ret.cells (r : Ret) : List C := [.int .i64 r.zone, .int .i64 r.epoch]
def Ret.cell (r : Ret) : Nat → C
 | 0 => .int .i64 r.zone
 | 1 => .int .i64 r.epoch
 | _ => .junk
def retG (l : List Ret) : Nat → Nat → C := rowG Ret.cell l
def retC (l : List Ret) : C := .isl 2 l.length (retG l) false
theorem QfC (e : Ret) (j : Nat) : (e.cell j).imm = true := by
 unfold Ret.cell; split <;> rfl
structure Req where
 serial : Int
 kind : Int
 block : Int
 data : ByteArray
 deriving DecidableEq
instance : Inhabited Req := ⟨⟨0, 0, 0, ByteArray.empty⟩⟩
def Req.cells (r : Req) : List C := [.int .i64 r.serial, .int .i64 r.kind, .int .i64 r.block, .str r.data]
def Req.cell (r : Req) : Nat → C
 | 0 => .int .i64 r.serial
 | 1 => .int .i64 r.kind
 | 2 => .int .i64 r.block
 | 3 => .str r.data
 | _ => .junk
def reqG (l : List Req) : Nat → Nat → C := rowG Req.cell l
def reqC (l : List Req) : C := .isl 4 l.length (reqG l) false
theorem Qct (e : Req) (j : Nat) : (e.cell j).imm = true := by
 unfold Req.cell; split <;> rfl
structure Rng where
 depth : Int
 items : List Req
 deriving DecidableEq
instance : Inhabited Rng := ⟨⟨0, []⟩⟩
def Rng.cells (r : Rng) : List C := [.int .i64 r.depth, reqC r.items]
def Rng.cell (r : Rng) : Nat → C
 | 0 => .int .i64 r.depth
 | 1 => reqC r.items
 | _ => .junk
def rngG (l : List Rng) : Nat → Nat → C := rowG Rng.cell l
def rngC (l : List Rng) : C := .isl 2 l.length (rngG l) false
theorem QB (e : Rng) (j : Nat) : (e.cell j).imm = true := by
 unfold Rng.cell; split <;> rfl
structure Wrk where
 state : Int
 req : Req
 ent : Ent
 data : ByteArray
 deriving DecidableEq
instance : Inhabited Wrk := ⟨⟨0, default, default, ByteArray.empty⟩⟩
def Wrk.cells (w : Wrk) : List C := [.int .i64 w.state, .int .i64 w.req.serial, .int .i64 w.req.kind, .int .i64 w.req.block, .str w.req.data, .int .i64 w.ent.block, .int .i64 w.ent.kind, .int .i64 w.ent.version, .int .i64 w.ent.move, .int .i64 w.ent.zone, .int .i64 w.ent.offset, .str w.data]
def Wrk.cell (w : Wrk) : Nat → C
 | 0 => .int .i64 w.state
 | 1 => .int .i64 w.req.serial
 | 2 => .int .i64 w.req.kind
 | 3 => .int .i64 w.req.block
 | 4 => .str w.req.data
 | 5 => .int .i64 w.ent.block
 | 6 => .int .i64 w.ent.kind
 | 7 => .int .i64 w.ent.version
 | 8 => .int .i64 w.ent.move
 | 9 => .int .i64 w.ent.zone
 | 10 => .int .i64 w.ent.offset
 | 11 => .str w.data
 | _ => .junk
def wrkG (l : List Wrk) : Nat → Nat → C := rowG Wrk.cell l
def wrkC (l : List Wrk) : C := .isl 12 l.length (wrkG l) false
theorem Qj (e : Wrk) (j : Nat) : (e.cell j).imm = true := by
 unfold Wrk.cell; split <;> rfl
structure Cln where
 state : Int
 victim : Int
 offset : Int
 ent : Ent
 pzone : Int
 poff : Int
 deriving DecidableEq
instance : Inhabited Cln := ⟨⟨0, 0, 0, default, 0, 0⟩⟩
structure Sav where
 state : Int
 done : Int
 slot : Int
 seq : Int
 next : Int
 cut : Int
 ents : List Ent
 recs : List Rec
 deriving DecidableEq
instance : Inhabited Sav := ⟨⟨0, 0, 0, 0, 0, 0, [], []⟩⟩
def QdN (r : Rec) : Nat → C
 | 0 => .int .i64 r.kind
 | 1 => .int .i64 r.block
 | 2 => .int .i64 r.version
 | 3 => .int .i64 r.move
 | 4 => .str r.payload
 | _ => .junk
theorem Qcr (e : Rec) (j : Nat) : (QdN e j).imm = true := by
 unfold QdN; split <;> rfl
instance : Inhabited Rec := ⟨⟨0, 0, 0, 0, ByteArray.empty⟩⟩
def recG (l : List Rec) : Nat → Nat → C := rowG QdN l
def Qib (l : List Rec) : C := .isl 5 l.length (recG l) false
structure St where
 cfg : Conf
 dev : Dev
 map : List (List Ent)
 live : List Int
 pend : List Int
 owner : List Int
 glob : Int
 pins : List Int
 rets : List Ret
 free : List Int
 host : Int
 lane : Int
 rings : List Rng
 works : List Wrk
 cln : Cln
 sav : Sav
 next : Int
 serial : Int
 seq : Int
 slot : Int
 want : Bool
 closed : Bool
 evs : List Evt
 deriving DecidableEq
instance : Inhabited St := ⟨⟨default, ⟨0, 0, 0, []⟩, [], [], [], [], 0, [], [], [], 0, 0, [], [], default, default, 0, 0, 0, 0, false, false, []⟩⟩
def St.cellsZ (s : St) (fr mp rg wk ev : C) : List C := [.int .i64 s.cfg.zones, .int .i64 s.cfg.size, .int .i64 s.cfg.blocks, .int .i64 s.cfg.queues, .int .i64 s.cfg.depth, .int .i64 s.cfg.shards,
 .int .i64 s.dev.size, .int .i64 s.dev.maxOpen, .int .i64 s.dev.maxActive, Qc2 s.dev.zones, mp, Qi s.live, Qi s.pend, Qi s.owner, .int .i64 s.glob, Qi s.pins, retC s.rets, fr, .int .i64 s.host, .int .i64 s.lane, rg, wk,
 .int .i64 s.cln.state, .int .i64 s.cln.victim, .int .i64 s.cln.offset, .int .i64 s.cln.ent.block, .int .i64 s.cln.ent.kind, .int .i64 s.cln.ent.version, .int .i64 s.cln.ent.move, .int .i64 s.cln.ent.zone, .int .i64 s.cln.ent.offset, .int .i64 s.cln.pzone, .int .i64 s.cln.poff,
 .int .i64 s.sav.state, .int .i64 s.sav.done, .int .i64 s.sav.slot, .int .i64 s.sav.seq, .int .i64 s.sav.next, .int .i64 s.sav.cut, Qaw s.sav.ents, Qib s.sav.recs,
 .int .i64 s.next, .int .i64 s.serial, .int .i64 s.seq, .int .i64 s.slot, .bool s.want, .bool s.closed, ev]
def St.cellsX (s : St) (mp rg wk ev : C) : List C := s.cellsZ (Qi s.free) mp rg wk ev
def St.cellsW (s : St) (rg wk ev : C) : List C := s.cellsX (QH s.map) rg wk ev
def St.cells (s : St) : List C := s.cellsW (rngC s.rings) (wrkC s.works) (evC s.evs)
structure St.small (s : St) : Prop where
 dev : s.dev.small
 map : s.map.length ≤ 1000000
 shard : ∀ i, (s.map.getD i default).length ≤ 1000000
 live : s.live.length ≤ 1000000
 pend : s.pend.length ≤ 1000000
 owner : s.owner.length ≤ 1000000
 pins : s.pins.length ≤ 1000000
 rets : s.rets.length ≤ 1000000
 free : s.free.length ≤ 1000000
 rings : s.rings.length ≤ 1000000
 items : ∀ i, (s.rings.getD i default).items.length ≤ 1000000
 works : s.works.length ≤ 1000000
 ents : s.sav.ents.length ≤ 1000000
 recs : s.sav.recs.length ≤ 1000000
 evs : s.evs.length ≤ 1000000
theorem QD {p : Nat → Prop} {k : Nat} (h : ∀ i, i < k → p i) (hk : p k) : ∀ i, i < k + 1 → p i := fun i hi => by
 by_cases c : i = k
 ·subst c; exact hk
 ·exact h i om
def Qo (c : Conf) : Int := (c.blocks + 2 + c.size - 1).tdiv c.size
def Qq (c : Conf) : Int := c.zones - 2 * Qo c
def capN (c : Conf) : Int := (Qq c - 3) * (c.size - 1) - c.queues - 1
def QbQ (c : Conf) : Bool := decide (3 ≤ c.size ∧ c.size ≤ 64 ∧ 1 ≤ c.zones ∧ c.zones ≤ 32 ∧ 1 ≤ c.blocks ∧ c.blocks ≤ 128 ∧ 1 ≤ c.queues ∧ c.queues ≤ 4 ∧ 1 ≤ c.depth ∧ c.depth ≤ 8 ∧ 1 ≤ c.shards ∧ c.shards ≤ 8)
def Qw (c : Conf) : Int := if QbQ c = true then if Qq c < 6 ∨ capN c < 1 then 11 else 0 else 1
theorem confR_iff {c : Conf} : QbQ c = true ↔ 3 ≤ c.size ∧ c.size ≤ 64 ∧ 1 ≤ c.zones ∧ c.zones ≤ 32 ∧ 1 ≤ c.blocks ∧ c.blocks ≤ 128 ∧ 1 ≤ c.queues ∧ c.queues ≤ 4 ∧ 1 ≤ c.depth ∧ c.depth ≤ 8 ∧ 1 ≤ c.shards ∧ c.shards ≤ 8 := by
 unfold QbQ; rw [decide_eq_true_eq]
theorem Qv {c : Conf} (h : Qw c = 0) : QbQ c = true ∧ 6 ≤ Qq c ∧ 1 ≤ capN c := by
 unfold Qw at h
 split at h
 ·rename_i hr
  split at h
  ·omega
  ·exact ⟨hr, om, om⟩
 ·omega
theorem Qae {c : Conf} (h : QbQ c = true) : 1 ≤ Qo c ∧ Qo c ≤ 130 := by
 rw [confR_iff] at h
 unfold Qo
 have h0 : 0 ≤ c.blocks + 2 + c.size - 1 := by omega
 rw [Int.tdiv_eq_ediv_of_nonneg h0]
 constructor
 ·have : 1 * c.size ≤ c.blocks + 2 + c.size - 1 := by omega
  exact (Int.le_ediv_iff_mul_le om).2 this
 ·have : (c.blocks + 2 + c.size - 1) < 131 * c.size := by omega
  have := Int.ediv_lt_of_lt_mul om this
  omega
def QO (c : Conf) (z : Int) : Bool := decide (Qw c = 0 ∧ 2 * Qo c ≤ z ∧ z < c.zones)
def Qbl (e : Ent) : Bool := decide ((e.kind = 1 ∨ e.kind = 2) ∧ 1 ≤ e.version ∧ e.version ≤ 1099511627776 ∧ 0 ≤ e.move ∧ e.move ≤ 255 ∧ 0 ≤ e.block ∧ 0 ≤ e.zone ∧ 0 ≤ e.offset)
def Q0 (l : List Ent) : Bool := decide (∀ i, i < l.length → Qbl (l.getD i default) = true ∧ (0 < i → (l.getD (i - 1) default).block < (l.getD i default).block))
def QaD (l : List Ent) (n i : Nat) : Bool := decide (∀ k, k < l.length → (l.getD k default).block.tmod n = i)
def Qu (m : List (List Ent)) : Bool := decide (1 ≤ m.length ∧ m.length ≤ 8) && decide (∀ i, i < m.length → Q0 (m.getD i default) = true ∧ QaD (m.getD i default) m.length i = true)
def QC (live pend : List Int) : Bool := decide (live.length = pend.length ∧ 1 ≤ live.length ∧ live.length ≤ 32) && decide (∀ i, i < live.length → 0 ≤ live.getD i default ∧ live.getD i default ≤ 1099511627776 ∧ 0 ≤ pend.getD i default ∧ pend.getD i default ≤ 1099511627776)
def Qaj (o : List Int) : Bool := decide (1 ≤ o.length ∧ o.length ≤ 8) && decide (∀ i, i < o.length → -1 ≤ o.getD i default)
def Qnt (glob : Int) (pins : List Int) : Bool := decide (∀ i, i < pins.length → pins.getD i default = -1 ∨ 0 ≤ pins.getD i default ∧ (pins.getD i default = glob ∨ pins.getD i default = glob - 1))
def Qmx (glob : Int) (rets : List Ret) : Bool := decide (∀ i, i < rets.length → 0 ≤ (rets.getD i default).zone ∧ 0 ≤ (rets.getD i default).epoch ∧ (rets.getD i default).epoch ≤ glob ∧ ∀ j, j < i → (rets.getD j default).zone ≠ (rets.getD i default).zone)
def QA (glob : Int) (pins : List Int) (rets : List Ret) : Bool := decide (1 ≤ pins.length ∧ pins.length ≤ 4 ∧ 0 ≤ glob ∧ glob ≤ 1099511627776) && (Qnt glob pins && Qmx glob rets)
def QbY (c : Conf) (free : List Int) (z : Int) : Bool := decide (z = -1 ∨ QO c z = true ∧ z ∉ free)
def QdD (c : Conf) (free : List Int) : Bool := decide (∀ i, i < free.length → QO c (free.getD i default) = true ∧ (0 < i → free.getD (i - 1) default < free.getD i default))
def poolOk (c : Conf) (free : List Int) (host lane : Int) : Bool := decide (Qw c = 0) && (QdD c free && (QbY c free host && (QbY c free lane && decide (host = -1 ∨ host ≠ lane))))
def QX (r : Rng) : Bool := decide (1 ≤ r.depth ∧ r.depth ≤ 8 ∧ (r.items.length : Int) ≤ r.depth) && decide (∀ i, i < r.items.length → 0 ≤ (r.items.getD i default).serial ∧ (0 < i → (r.items.getD (i - 1) default).serial < (r.items.getD i default).serial))
def cmdE (c : Conf) (r : Req) : Int :=
 if r.kind < 1 ∨ 4 < r.kind then 3 else if r.kind = 4 ∧ r.block ≠ 0 ∨ r.kind ≠ 4 ∧ (r.block < 0 ∨ c.blocks ≤ r.block) then 1 else if r.kind = 2 ∧ r.data.size ≠ 16 ∨ r.kind ≠ 2 ∧ r.data.size ≠ 0 then 2 else 0
def Qas (c : Conf) (w : Wrk) : Bool := decide (w.state = 0 ∨ cmdE c w.req = 0 ∧ (w.req.kind = 1 → 1 ≤ w.state ∧ w.state ≤ 4) ∧ (w.req.kind = 4 → w.state = 10 ∨ w.state = 11) ∧ (w.req.kind ≠ 1 → w.req.kind ≠ 4 → 5 ≤ w.state ∧ w.state ≤ 9))
def QaE (m : List (List Ent)) (n : Int) : Bool := decide (∀ i, i < m.length → ∀ k, k < (m.getD i default).length → ((m.getD i default).getD k default).block < n)
def QaH (s : St) : Bool :=
 decide (Qw s.cfg = 0) && (decide (check s.dev = 0) && (decide ((s.dev.zones.length : Int) = s.cfg.zones ∧ s.dev.size = s.cfg.size) && (Qu s.map && (decide ((s.map.length : Int) = s.cfg.shards) && (QaE s.map s.cfg.blocks && (QC s.live s.pend && (decide ((s.live.length : Int) = s.cfg.zones) && (Qaj s.owner && (decide ((s.owner.length : Int) = s.cfg.shards) && (QA s.glob s.pins s.rets && (decide ((s.pins.length : Int) = s.cfg.queues) && (poolOk s.cfg s.free s.host s.lane && (decide ((s.rings.length : Int) = s.cfg.queues ∧ (s.works.length : Int) = s.cfg.queues) &&
  decide (1 ≤ s.next ∧ s.next ≤ 1099511627776 ∧ 0 ≤ s.serial ∧ s.serial ≤ 1099511627776))))))))))))))
def QdQ (s : St) (i : Nat) : Bool :=
 QX (s.rings.getD i default) && (decide ((s.rings.getD i default).depth = s.cfg.depth) && (Qas s.cfg (s.works.getD i default) && (decide ((s.works.getD i default).state = 0 ∨ (s.works.getD i default).req.serial < s.serial) && decide (∀ k, k < (s.rings.getD i default).items.length → ((s.rings.getD i default).items.getD k default).serial < s.serial))))
def Qz (s : St) : Bool := QaH s && (decide (∀ i, i < s.rings.length → QdQ s i = true) && decide (∀ i, i < s.evs.length → (s.evs.getD i default).serial < s.serial))
def Q7 (l : List Evt) (n : Int) : Bool := l.any fun e => e.ret && decide (e.serial = n)
def Q4 (l : List Evt) (n : Int) : Bool := l.any fun e => !e.ret && decide (e.serial = n)
def Qab (l : List Evt) : Nat → List Int
 | 0 => []
 | k + 1 => if (l.getD k default).ret = false ∧ Q7 l (l.getD k default).serial = false ∧ Q4 (l.take k) (l.getD k default).serial = false then Qab l k ++ [(l.getD k default).serial] else Qab l k
def Qcu (l : List Evt) : List Int := Qab l l.length
theorem QdI (l : List Evt) : ∀ k, (Qab l k).length ≤ k
 | 0 => Nat.le_refl _
 | k + 1 => by
  have := QdI l k
  simp only [Qab]
  split
  ·simp; omega
  ·omega
end Go.Proofs
end

section
open Go Go.Am
namespace Go.Proofs
set_option maxRecDepth 20000
section
variable {H : Type} {enc : TypeId × Value → H}
theorem Qvw : Rd enc Tryz.prog 3 1 Int (fun n _ => .int .i64 n) fun n d => (Lit.int .i64 n).wf = true ∧ d = .lit (.int .i64 n) := Rd.int Tryz.underlying3 (by kernel_rfl)
theorem Qu6 : Rd enc Tryz.prog 22 1 (List Int) (fun l _ => .isl 1 l.length (rowG (fun n _ => .int .i64 n) l) false) (QuK fun n d => (Lit.int .i64 n).wf = true ∧ d = .lit (.int .i64 n)) := Rd.slice Tryz.underlying22 (by kernel_rfl) (by decide) Qvw
def GoodConf (c : Conf) (d : DataW H) : Prop := (Lit.int .i64 c.zones).wf = true ∧ d = .agg [.lit (.int .i64 c.zones), .lit (.int .i64 c.size), .lit (.int .i64 c.blocks), .lit (.int .i64 c.queues), .lit (.int .i64 c.depth), .lit (.int .i64 c.shards)]
def Req.cmd (r : Req) : List C := [.int .i64 r.kind, .int .i64 r.block, .str r.data]
def Qxt (r : Req) (d : DataW H) : Prop := ((Lit.int .i64 r.kind).wf = true ∧ (Lit.int .i64 r.block).wf = true ∧ r.data.size ≤ maxLen) ∧ d = .agg [.lit (.int .i64 r.kind), .lit (.int .i64 r.block), .lit (.string r.data.data.toList)]
theorem Qvb {t : TypeId} {α : Type} {cell : α → C} {good : α → DataW H → Prop} (R : Rd enc Tryz.prog t 1 α (fun a _ => cell a) good) {W : World} {sp : Nat → Bool} {v : Value} {d : DataW H} {ps : List MemPlace}
  (hv : v.cells = #[v]) (h : DataW.Trod enc Tryz.prog W 0 sp true t v d ps) : ∃ a, good a d ∧ ∀ μ, RepS (QbG W) [] μ (.c (cell a)) v := by
 obtain ⟨fuel, hf⟩ := h
 obtain ⟨hl, a, a1, a2⟩ := R.out W sp fuel _ _ hf
 obtain ⟨u, u1, u2⟩ := a1 0 (by decide)
 rw [hv] at u1
 simp at u1
 subst u1
 exact ⟨a, a2, fun μ => RepS.ofF u2⟩
end
end Go.Proofs
end

section
open Go Go.Am
namespace Go.Proofs
set_option maxRecDepth 20000
def QU (r : Rng) (x : Req) : Rng × Int :=
 if QX r = true then
  if (r.items.length : Int) = r.depth then (r, 13)
  else if x.serial < 0 ∨ 0 < r.items.length ∧ x.serial ≤ (r.items.getD (r.items.length - 1) default).serial then (r, 17)
  else (⟨r.depth, r.items ++ [x]⟩, 0)
 else (r, 6)
def Qah (r : Rng) : Rng × Req × Bool :=
 if QX r = true ∧ 0 < r.items.length then (⟨r.depth, r.items.drop 1⟩, r.items.getD 0 default, true) else (r, default, false)
def St.addEv (s : St) (e : Evt) : St := { s with evs := s.evs ++ [e] }
def St.setRing (s : St) (q : Nat) (r : Rng) : St := { s with rings := s.rings.set q r }
def St.setWork (s : St) (q : Nat) (w : Wrk) : St := { s with works := s.works.set q w }
def QN (back : Bool) (q : Int) (r : Req) (err : Int) (d : ByteArray) : Evt := ⟨back, q, r.serial, r.kind, r.block, r.data, err, d⟩
def QdM (s : St) (q : Int) (err : Int) (d : ByteArray) : St × Bool :=
 if Qz s = true ∧ 0 ≤ q ∧ q < s.works.length ∧ (s.works.getD q.toNat default).state ≠ 0 then
  ((s.addEv (QN true q (s.works.getD q.toNat default).req err d)).setWork q.toNat default, true)
 else (s, false)
def QI (s : St) (q : Int) (x : Req) : St × Int :=
 if Qz s = true then
  if 0 ≤ q ∧ q < s.rings.length then
   if 398 < s.evs.length + (Qcu s.evs).length ∨ 1099511627776 ≤ s.serial then (s, 19)
   else
    let y : Req := { x with serial := s.serial }
    if s.closed = true then
     (({ s with serial := s.serial + 1 }.addEv (QN false q y 0 ByteArray.empty)).addEv (QN true q y 12 ByteArray.empty), 0)
    else
     let r := QU (s.rings.getD q.toNat default) y
     if r.2 ≠ 0 then (s, r.2)
     else ({ (s.setRing q.toNat r.1) with serial := s.serial + 1 }.addEv (QN false q y 0 ByteArray.empty), 0)
  else (s, 1)
 else (s, 6)
def QaZ (k : Int) : Int := if k = 1 then 1 else if k = 4 then 10 else 5
def Qn (own : Bool) (s : St) (q : Int) : St × Bool :=
 if Qz s = true ∧ 0 ≤ q ∧ q < s.works.length ∧ (s.works.getD q.toNat default).state = 0 then
  let t := Qah (s.rings.getD q.toNat default)
  if t.2.2 = true then
   let s1 := s.setRing q.toNat t.1
   if cmdE s.cfg t.2.1 = 0 then (s1.setWork q.toNat ⟨QaZ t.2.1.kind, t.2.1, default, ByteArray.empty⟩, true)
   else ((if own = true then s1.setWork q.toNat default else s1).addEv (QN true q t.2.1 (cmdE s.cfg t.2.1) ByteArray.empty), true)
  else (s, false)
 else (s, false)
def Qk (w : Wrk) : Bool := decide (w.state = 7 ∨ w.state = 8)
def QbJ (n : Int) (l : List Wrk) : Nat → Int
 | 0 => n
 | k + 1 => if Qk (l.getD k default) = true ∧ ((l.take k).any Qk = false ∨ (l.getD k default).ent.version < QbJ n l k) then (l.getD k default).ent.version else QbJ n l k
def cutS (s : St) : Int := if Qz s = true then QbJ s.next s.works s.works.length else 0
def QcA (n : Int) (e : Ent) : Bool := decide (e.kind = 2 ∧ e.version < n)
def Qj6 (s : St) : Bool := Qz s && s.map.any fun l => l.any (QcA (cutS s))
theorem size_set {l : List Wrk} {k : Nat} {w : Wrk} : (l.set k w).length = l.length := List.length_set
end Go.Proofs
end
