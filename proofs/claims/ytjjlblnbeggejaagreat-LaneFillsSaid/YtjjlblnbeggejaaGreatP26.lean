/- Contracts, lemmas; no condition. -/
import Derived.Test.YtjjlblnbeggejaaGreatP25
import Derived.Test.YtjjlblnbeggejaaGreatP24
import Derived.Test.YtjjlblnbeggejaaGreatP23
import Derived.Test.YtjjlblnbeggejaaGreatP20
import Derived.Test.YtjjlblnbeggejaaGreatP17
import Derived.Test.YtjjlblnbeggejaaGreatP12
import Derived.Test.YtjjlblnbeggejaaGreatP10
set_option linter.all false
section
open Go Go.Am
namespace Go.Proofs
set_option maxRecDepth 20000
structure Gl (c : Conf) (n : Int) (r : Nat) (s : St) : Prop where
 gq : Gq c n r s
 lq : Lq s
 nf : ∀ z, z = s.host ∨ z = s.lane → 0 ≤ z → (zAt s.dev z).state ≠ 4
variable {c : Conf} {n : Int} {r : Nat} {s : St} {z : Int}
theorem Gl.gd (h : Gl c n r s) : Gd c n r 0 s := h.gq.gd
theorem Gl.weak {n' : Int} {r' : Nat} (h : Gl c n r s) (h1 : n ≤ n') (h2 : r ≤ r') : Gl c n' r' s := ⟨h.gq.weak h1 h2, h.lq, h.nf⟩
theorem Gl.small (h : Gl c n r s) (hr : r ≤ 1000000) : s.small := h.gq.small hr
theorem Gq.free0 (h : Gq c n r s) : ∀ y ∈ s.free, 0 ≤ y ∧ y < s.dev.zones.length := fun y hy => by
 have h1 := QaC (h.gd.poolOk.data y hy)
 have h2 := h.gd.val.parts.zones
 rw [h.gd.cfg] at h2
 omega
theorem Gq.size (h : Gq c n r s) : s.dev.size = c.size := by rw [h.gd.val.parts.size, h.gd.cfg]
theorem Gl.bump (h : Gl c n r s) (hn : n ≤ 1000000) : Gl c (n + 1) r s.bump := ⟨h.gq.bump hn, ⟨h.lq.dev, h.lq.free, h.lq.ents, h.lq.pend, h.lq.pins⟩, h.nf⟩
theorem Qoj {l : List Int} {y x : Int} (h : x ∈ Qah l y) : x ∈ l := (without_mem.1 h).1
theorem Lk.unfree {ks : List Int} (h : Lk s ks) (z : Int) : Lk (s.unfree z) ks := ⟨h.dev, fun y hy => h.free y (Qoj hy), h.ents, h.pend, h.pins⟩
theorem Qht {d : DiceM} {b v : Int} (hb : 1 ≤ b ∧ b ≤ 1000) (hv : 0 ≤ v ∧ v ≤ 1099511627776) : Qm (recR d b v) = 0 ∧ QbB (recR d b v) = true := by
 have h := d.next_range hb.1 (by omega)
 have hs := Qn6 (d.step.next 200)
 unfold recR Qm
 split
 ·dsimp only
  exact ⟨by rw [if_pos (decide_eq_true (by omega)), if_pos (decide_eq_true (by omega)), if_pos (decide_eq_true ⟨by decide, fun q => by omega, fun _ => rfl⟩)], rfl⟩
 ·dsimp only
  exact ⟨by rw [if_pos (decide_eq_true (by omega)), if_pos (decide_eq_true (by omega)), if_pos (decide_eq_true ⟨by omega, fun _ => hs, fun q => by omega⟩)], rfl⟩
theorem Lk.apart {ks : List Int} (h : Lk s ks) (hk : ks.length ≤ 3) {k : Nat} (w : Wz s ks z k) {x : ByteArray} (hx : x.size = 40) {i : Nat} (hi : (i : Int) ≠ z) : (Qf s.dev z x).zones.getD i default = s.dev.zones.getD i default := by
 obtain ⟨e1, e2, e3, e4⟩ := h.dev.app hk w.mem w.ge w.lt w.st hx
 rw [e2]
 have := w.ge
 have := w.lt
 dsimp only
 rw [QbA (by omega), if_neg (by omega)]
theorem Gl.addL (h : Gl c n r s) (hz : z = s.host ∨ z = s.lane) (h0 : 0 ≤ z) {k : Nat} (w : Wz s [s.host, s.lane] z k) (hk : (k : Int) + 1 < c.size) {x : Rec} (hx : x.block < c.blocks) (hc : Qm x = 0) (hb : QbB x = true) :
  Gl c n r (s.add z x) ∧ Wz (s.add z x) [(s.add z x).host, (s.add z x).lane] z (k + 1) ∧ (s.add z x).host = s.host ∧ (s.add z x).lane = s.lane := by
 have hsz := h.gq.size
 obtain ⟨a1, a2, a3, a4, a5, a6⟩ := h.lq.add (by simp) w (fun y hy => (h.gq.free0 y hy).1) hc hb
 have a2' := a2 (by omega)
 refine ⟨⟨h.gq.add z hx, by rw [Lq, a3, a4]; exact a1, fun y hy hy0 => ?_⟩, by rw [a3, a4]; exact a2', a3, a4⟩
 rw [a3, a4] at hy
 by_cases q : y = z
 ·rw [q]; exact a2'.st
 ·rw [a6]
  have := h.lq.apart (by simp) w (Qai hc) (i := y.toNat) (by omega)
  unfold zAt
  rw [this]
  exact h.nf y hy hy0
theorem Qn7 {r : Rec} (h : Qm r = 0) : Qm { r with move := min (r.move + 1) 255 } = 0 := by
 obtain ⟨h1, h2, _⟩ := QaY h
 unfold Qm at h ⊢
 dsimp only at h ⊢
 rw [if_pos (decide_eq_true h1)] at h ⊢
 rw [if_pos (decide_eq_true h2)] at h
 rw [if_pos (decide_eq_true (by omega))]
 exact h
theorem Qst {d : Dev} {z o : Int} (h : QdD d z o = 0) : Q5 d z o = (zAt d z).sectors.getD o.toNat ByteArray.empty := by unfold Q5; rw [if_pos h]; rfl
theorem Gl.copied (h : Gl c n r s) (hz : z = s.host ∨ z = s.lane) (h0 : 0 ≤ z) {k : Nat} (w : Wz s [s.host, s.lane] z k) (hk : (k : Int) + 1 < c.size) (e : Ent) :
  Gl c n r (s.copied e z) ∧ (∃ j, j ≤ k + 1 ∧ Wz (s.copied e z) [(s.copied e z).host, (s.copied e z).lane] z j) ∧ (s.copied e z).host = s.host ∧ (s.copied e z).lane = s.lane := by
 have hq := h.gq.copied e z
 have hsz := h.gq.size
 unfold St.copied at hq ⊢
 split
 ·rename_i hc
  rw [if_pos hc] at hq
  obtain ⟨c1, c2, c3, c4⟩ := hc
  have hbl : decE (Q5 s.dev e.zone e.offset) = 0 ∧ QbB (decR (Q5 s.dev e.zone e.offset)) = true := by
   unfold QaA at c2
   split at c2
   ·assumption
   ·cases c2
  have hb2 : QaA (Q5 s.dev e.zone e.offset) = (decR (Q5 s.dev e.zone e.offset), true) := by unfold QaA; rw [if_pos hbl]
  rw [hb2] at hq c3 c4 ⊢
  have hck : Qm (decR (Q5 s.dev e.zone e.offset)) = 0 := by
   unfold QbV at c3
   split at c3
   ·rename_i q; exact q.1
   ·cases c3
  have hcp : QbV (decR (Q5 s.dev e.zone e.offset)) = ({ (decR (Q5 s.dev e.zone e.offset)) with move := min ((decR (Q5 s.dev e.zone e.offset)).move + 1) 255 }, true) := by unfold QbV; rw [if_pos ⟨hck, hbl.2⟩]
  dsimp only at hq c3 c4 ⊢
  rw [hcp] at hq c4 ⊢
  dsimp only at hq c4 ⊢
  generalize hR : ({ (decR (Q5 s.dev e.zone e.offset)) with move := min ((decR (Q5 s.dev e.zone e.offset)).move + 1) 255 } : Rec) = R at *
  have hRc : Qm R = 0 := by rw [← hR]; exact Qn7 hck
  have hRb : QbB R = true := by rw [← hR]; exact hbl.2
  have hRk : R.kind = (decR (Q5 s.dev e.zone e.offset)).kind ∧ R.block = (decR (Q5 s.dev e.zone e.offset)).block ∧ R.version = (decR (Q5 s.dev e.zone e.offset)).version := by rw [← hR]; exact ⟨rfl, rfl, rfl⟩
  obtain ⟨e1, e2, e3, e4, e5, e6, e7, e8⟩ := h.lq.app (by simp) w (fun y hy => (h.gq.free0 y hy).1) (Qai hRc) (.inr (QjM hRc hRb).1)
  have hlt := w.lt
  have hw : ∀ (m : List (List Ent)) (l : List Int), Wz { s with dev := Qf s.dev z (encR R), map := m, live := l } [s.host, s.lane] z (k + 1) := fun m l =>
   ⟨w.mem, w.ge, by show z < ((Qf s.dev z (encR R)).zones.length : Int); rw [Qa7]; exact hlt, w.nfree, by show (zAt (Qf s.dev z (encR R)) z).sectors.length = k + 1; rw [e6, List.length_append, w.len]; rfl, by show (zAt (Qf s.dev z (encR R)) z).state ≠ 4; rw [e7, if_neg (by omega)]; decide⟩
  refine ⟨⟨hq, ⟨e4, e5, ?_, h.lq.pend, h.lq.pins⟩, fun y hy hy0 => ?_⟩, ⟨k + 1, Nat.le_refl _, hw _ _⟩, by trivial, by trivial⟩
  ·refine AllH.rel (h.lq.ents.mono fun x hx => hx.grows (QeZ s.dev z (encR R))) fun x hx x1 x2 hk1 => ?_
   obtain ⟨q, q1, q2, q3, q4, q5, q6, q7⟩ := hx hk1
   have hrd : Q5 s.dev e.zone e.offset = encR q := by
    rw [Qst c1]
    obtain ⟨t, ht⟩ := (QeZ s.dev z (encR R)).secs e.zone.toNat
    have hlen : e.offset.toNat < (zAt s.dev e.zone).sectors.length := by
     unfold QdD at c1
     split at c1
     ·split at c1
      ·rename_i w1
       have := of_decide_eq_true w1
       show e.offset.toNat < (s.dev.zones.getD e.zone.toNat default).sectors.length
       omega
      ·cases c1
     ·rename_i w1; exact absurd c1 w1
    rw [x1, x2] at q7
    unfold zAt at q7 hlen ⊢
    rw [ht] at q7
    rw [← q7]
    simp only [List.getD] at hlen ⊢
    rw [List.getElem?_append_left hlen]
   have hdq := (QoD q1).2
   rw [hrd, hdq] at hRk
   refine ⟨R, hRc, by rw [hRk.1]; exact q2, by rw [hRk.2.1]; exact q3, by rw [hRk.2.2]; exact q4, ⟨w.ge, by show z < ((Qf s.dev z (encR R)).zones.length : Int); rw [Qa7]; exact hlt⟩, ?_, ?_⟩
   ·show 0 ≤ QA s.dev z (encR R) ∧ QA s.dev z (encR R) < ((zAt (Qf s.dev z (encR R)) z).sectors.length : Int)
    rw [e2, e6, List.length_append, w.len]
    simp only [List.length_cons, List.length_nil]
    omega
   ·show (zAt (Qf s.dev z (encR R)) z).sectors.getD (QA s.dev z (encR R)).toNat ByteArray.empty = encR R
    rw [e2, e6]
    simp only [List.getD]
    rw [Int.toNat_natCast, List.getElem?_append_right (by rw [w.len]; exact Nat.le_refl _), w.len, Nat.sub_self]
    rfl
  ·by_cases q : y = z
   ·rw [q]; exact (hw s.map s.live).st
   ·have := h.lq.apart (by simp) w (Qai hRc) (i := y.toNat) (by omega)
    show (zAt (Qf s.dev z (encR R)) y).state ≠ 4
    unfold zAt
    rw [this]
    exact h.nf y hy hy0
 ·exact ⟨h, ⟨k, by omega, w⟩, rfl, rfl⟩
theorem Gl.setHost (h : Gl c n r s) (hf : 0 < s.free.length) (hh : s.host = -1) : Gl c n r { (s.unfree (s.free.getD 0 default)) with host := s.free.getD 0 default } ∧ Wz { (s.unfree (s.free.getD 0 default)) with host := s.free.getD 0 default } [s.free.getD 0 default, s.lane] (s.free.getD 0 default) 0 := by
 have hm := Go.Proofs.free0 hf
 have hz := h.gq.free0 _ hm
 have hs := h.lq.free _ hm
 have hl : Lk { (s.unfree (s.free.getD 0 default)) with host := s.free.getD 0 default } [s.free.getD 0 default, s.lane] :=
  ⟨h.lq.dev.mono fun i _ _ hi => by
   rcases List.mem_cons.1 hi with q | q
   ·omega
   ·exact List.mem_cons_of_mem _ q, (h.lq.unfree (s.free.getD 0 default)).free, h.lq.ents, h.lq.pend, h.lq.pins⟩
 have hlen := h.lq.dev.empty (i := (s.free.getD 0 default).toNat) (by omega) hs
 refine ⟨⟨h.gq.setHost hf, hl, fun y hy hy0 => ?_⟩, ⟨by simp, hz.1, hz.2, fun q => (without_mem.1 q).2 rfl, hlen, by show (zAt s.dev _).state ≠ 4; rw [hs]; decide⟩⟩
 rcases hy with rfl | rfl
 ·show (zAt s.dev _).state ≠ 4; rw [hs]; decide
 ·exact h.nf _ (.inr rfl) hy0
theorem Gl.setLane (h : Gl c n r s) (hf : 0 < s.free.length) (hh : s.lane = -1) : Gl c n r { (s.unfree (s.free.getD 0 default)) with lane := s.free.getD 0 default } ∧ Wz { (s.unfree (s.free.getD 0 default)) with lane := s.free.getD 0 default } [s.host, s.free.getD 0 default] (s.free.getD 0 default) 0 := by
 have hm := Go.Proofs.free0 hf
 have hz := h.gq.free0 _ hm
 have hs := h.lq.free _ hm
 have hl : Lk { (s.unfree (s.free.getD 0 default)) with lane := s.free.getD 0 default } [s.host, s.free.getD 0 default] :=
  ⟨h.lq.dev.mono fun i _ _ hi => by
   rcases List.mem_cons.1 hi with q | q
   ·rw [q]; exact List.mem_cons_self ..
   ·have := List.mem_singleton.1 q; omega, (h.lq.unfree (s.free.getD 0 default)).free, h.lq.ents, h.lq.pend, h.lq.pins⟩
 have hlen := h.lq.dev.empty (i := (s.free.getD 0 default).toNat) (by omega) hs
 refine ⟨⟨h.gq.setLane hf, hl, fun y hy hy0 => ?_⟩, ⟨by simp, hz.1, hz.2, fun q => (without_mem.1 q).2 rfl, hlen, by show (zAt s.dev _).state ≠ 4; rw [hs]; decide⟩⟩
 rcases hy with rfl | rfl
 ·exact h.nf _ (.inl rfl) hy0
 ·show (zAt s.dev _).state ≠ 4; rw [hs]; decide
theorem Gl.retire (h : Gl c n r s) (i : Int) : Gl c n (r + 1) { s with rets := (Qas s.glob s.pins s.rets i).1 } := ⟨h.gq.retire i, ⟨h.lq.dev, h.lq.free, h.lq.ents, h.lq.pend, h.lq.pins⟩, h.nf⟩
theorem Gl.adv (h : Gl c n r s) : Gl c n r { s with glob := (advM s.glob s.pins s.rets).1 } := ⟨h.gq.adv, ⟨h.lq.dev, h.lq.free, h.lq.ents, h.lq.pend, h.lq.pins⟩, h.nf⟩
theorem Gl.flags (h : Gl c n r s) (a b : Bool) : Gl c n r { s with want := a, closed := b } := ⟨h.gq.flags a b, ⟨h.lq.dev, h.lq.free, h.lq.ents, h.lq.pend, h.lq.pins⟩, h.nf⟩
theorem Ql5 {d : Dev} (h : d.ok) (z : Int) : (zAt (Qbo d) z).state = (zAt d z).state ∧ (zAt (Qbo d) z).sectors = (zAt d z).sectors := by
 unfold Qbo
 rw [if_pos (check_ok.2 h)]
 unfold zAt
 dsimp only
 rw [Qms]
 exact ⟨rfl, rfl⟩
theorem Gl.sync (h : Gl c n r s) : Gl c n r { s with dev := Qbo s.dev } :=
 ⟨h.gq.sync, ⟨h.lq.dev.sync, fun z hz => by rw [(Ql5 h.lq.dev.ok z).1]; exact h.lq.free z hz, h.lq.ents.mono fun e he => he.sync h.lq.dev.ok, h.lq.pend, h.lq.pins⟩, fun z hz h0 => by
  show (zAt (Qbo s.dev) z).state ≠ 4
  rw [(Ql5 h.lq.dev.ok z).1]; exact h.nf z hz h0⟩
end Go.Proofs
end

section
open Go Go.Am
namespace Go.Proofs
set_option maxRecDepth 20000
variable {c : Conf} {n : Int} {r : Nat}
structure At (p0 : DS) (z : Int) (c : Conf) (n : Int) (r : Nat) (p : DS) : Prop where
 gq : Gq c n r p.2
 lk : Lk p.2 [z]
 host : p.2.host = p0.2.host
 lane : p.2.lane = p0.2.lane
 free : p.2.free = p0.2.free
 zones : ∀ i : Nat, (i : Int) ≠ z → p.2.dev.zones.getD i default = p0.2.dev.zones.getD i default
theorem Qm7 {p : DS} {z : Int} (h : At p z c n r p) (w : Wz p.2 [z] z 0) : ∀ k : Nat, (k : Int) + 1 ≤ c.size → n + k ≤ 1000000 → At p z c (n + k) r (addTo z p k) ∧ Wz (addTo z p k).2 [z] z k
 | 0, _, _ => ⟨⟨h.gq.weak (by omega) (Nat.le_refl _), h.lk, h.host, h.lane, h.free, h.zones⟩, w⟩
 | k + 1, h1, h2 => by
  obtain ⟨a, b⟩ := Qm7 h w k (by omega) (by omega)
  have hq : Gq c (n + k + 1) r (addF z (addTo z p k)).2 := Gq.addF (p := addTo z p k) a.gq (by omega) z
  show At p z c _ r (addF z (addTo z p k)) ∧ Wz (addF z (addTo z p k)).2 [z] z (k + 1)
  generalize addTo z p k = q at a b hq
  have hb := Qcf a.gq.gd.conf
  have hp1 := a.gq.gd.val.parts.next
  have hp2 := a.gq.gd.next
  have hro := Qht (d := q.1) (b := q.2.cfg.blocks) (v := q.2.next) (by rw [a.gq.gd.cfg]; omega) (by omega)
  have hL : Lk q.2.bump [z] := ⟨a.lk.dev, a.lk.free, a.lk.ents, a.lk.pend, a.lk.pins⟩
  have hW : Wz q.2.bump [z] z k := ⟨b.mem, b.ge, b.lt, b.nfree, b.len, b.st⟩
  have hsz := a.gq.size
  obtain ⟨e1, e2, e3, e4, e5, e6⟩ := hL.add (by simp) hW (fun y hy => (a.gq.free0 y hy).1) hro.1 hro.2
  refine ⟨⟨hq.weak (by omega) (Nat.le_refl _), e1, e3.trans a.host, e4.trans a.lane, e5.trans a.free, fun i hi => ?_⟩, e2 (by show (k : Int) + 1 < q.2.dev.size; omega)⟩
  show (q.2.bump.add z (recR q.1 q.2.cfg.blocks q.2.next)).dev.zones.getD i default = _
  rw [e6]
  exact (hL.apart (by simp) hW (Qai hro.1) hi).trans (a.zones i hi)
theorem Gl.fullF {p : DS} {z : Int} (h : Gl c n r p.2) (hh : p.2.host = -1) (hl : p.2.lane = -1) (hz : 0 ≤ z ∧ z < c.zones) (hs : (zAt p.2.dev z).state = 0) (hn : n + c.size ≤ 1000000) :
  Gl c (n + c.size) r (Go.Proofs.fullF z (p.1, p.2.unfree z)).2 ∧ (Go.Proofs.fullF z (p.1, p.2.unfree z)).2.host = -1 ∧ (Go.Proofs.fullF z (p.1, p.2.unfree z)).2.lane = -1 ∧ ∀ i : Nat, (i : Int) ≠ z → (Go.Proofs.fullF z (p.1, p.2.unfree z)).2.dev.zones.getD i default = p.2.dev.zones.getD i default := by
 have hzl := h.gd.val.parts.zones
 rw [h.gd.cfg] at hzl
 have hcf := confR_iff.1 (QR h.gd.conf).1
 have hw : Lk p.2 [z] := h.lq.weak fun i hi h0 _ => by
  rcases List.mem_cons.1 hi with q | q
  ·omega
  ·have := List.mem_singleton.1 q; omega
 have hlen := h.lq.dev.empty (i := z.toNat) (by omega) hs
 have a0 : At (p.1, p.2.unfree z) z c n r (p.1, p.2.unfree z) := ⟨h.gq.unfree z, hw.unfree z, rfl, rfl, rfl, fun _ _ => rfl⟩
 have w0 : Wz (p.1, p.2.unfree z).2 [z] z 0 := ⟨List.mem_cons_self .., hz.1, by show z < (p.2.dev.zones.length : Int); omega, fun q => (without_mem.1 q).2 rfl, hlen, by show (zAt p.2.dev z).state ≠ 4; rw [hs]; decide⟩
 have hcs : (p.1, p.2.unfree z).2.cfg.size = c.size := congrArg Conf.size h.gd.cfg
 have hq := Gq.fullF (p := (p.1, p.2.unfree z)) (h.gq.unfree z) z hn
 obtain ⟨a, w⟩ := Qm7 a0 w0 (c.size - 1).toNat (by omega) (by omega)
 unfold Go.Proofs.fullF at hq ⊢
 rw [hcs] at hq ⊢
 generalize addTo z (p.1, p.2.unfree z) (c.size - 1).toNat = q at a w hq
 have hds := a.gq.size
 obtain ⟨l1, l2⟩ := a.lk.sealed (by simp) w (fun y hy => (a.gq.free0 y hy).1) (by omega)
 have hm := Qg7 (a.lk.dev.secs z.toNat (by have := w.lt; omega) w.st) (by have := w.len; unfold zAt at this; omega) (by have := w.len; have := a.lk.dev.size; unfold zAt at *; omega)
 have hzz : ∀ i : Nat, (i : Int) ≠ z → (q.2.seal z).dev.zones.getD i default = p.2.dev.zones.getD i default := fun i hi => (a.lk.apart (by simp) w (Qai hm.2) hi).trans (a.zones i hi)
 have h1 : (q.2.seal z).host = -1 := a.host.trans hh
 have h2 : (q.2.seal z).lane = -1 := a.lane.trans hl
 refine ⟨⟨hq, ?_, fun y hy hy0 => ?_⟩, h1, h2, hzz⟩
 ·show Lk (q.2.seal z) [(q.2.seal z).host, (q.2.seal z).lane]
  refine l1.weak fun i hi _ hs4 => ?_
  have := List.mem_singleton.1 hi
  rw [this, l2] at hs4
  exact absurd hs4 (by decide)
 ·change y = (q.2.seal z).host ∨ y = (q.2.seal z).lane at hy
  rw [h1, h2] at hy
  omega
theorem Qie {c : Conf} (h : QB c = 0) : Gl c 1 0 (Qs c) ∧ ∀ i : Nat, ((Qs c).dev.zones.getD i default).state = 0 := by
 have hv := Qs8 h
 have he := Qhk h
 have hdev : (Qs c).dev = newX c.zones c.size 3 3 := by show newD _ _ _ _ = _; unfold newD; rw [if_pos he]
 have hz : ∀ i : Nat, ((Qs c).dev.zones.getD i default).state = 0 := fun i => by
  rw [hdev]
  by_cases q : i < c.zones.toNat
  ·show ((List.replicate c.zones.toNat QbP).getD i default).state = 0
   rw [Qa9 q]; rfl
  ·show ((List.replicate c.zones.toNat QbP).getD i default).state = 0
   rw [show (List.replicate c.zones.toNat QbP).getD i default = default by simp only [List.getD]; rw [List.getElem?_eq_none (by simp; omega)]; rfl]
   rfl
 have hok : (Qs c).dev.ok := check_ok.1 hv.gd.val.parts.dev
 refine ⟨⟨hv, ⟨⟨hok, by rw [hdev]; rfl, by rw [hdev]; rfl, fun i _ => .inl (hz i), fun i _ hs => by rw [hz i] at hs; exact absurd hs (by decide), fun i hi _ x hx => ?_⟩, fun z _ => hz z.toNat, fun l hl e he => ?_, fun i => ?_, fun i hi => ?_⟩, fun z _ _ => by show ((Qs c).dev.zones.getD z.toNat default).state ≠ 4; rw [hz]; decide⟩, hz⟩
 ·have := (hok.all.get hi).emp (.inl (hz i))
  have h0 : ((Qs c).dev.zones.getD i default).sectors = [] := List.length_eq_zero_iff.1 (by omega)
  rw [h0] at hx
  cases hx
 ·have : l = [] := (List.mem_replicate.1 hl).2
  subst this
  cases he
 ·show (List.replicate c.zones.toNat (0 : Int)).getD i default = 0
  by_cases q : i < c.zones.toNat
  ·exact Qa9 q
  ·simp only [List.getD]; rw [List.getElem?_eq_none (by simp; omega)]; rfl
 ·rw [show (Qs c).pins = List.replicate c.queues.toNat (-1) from rfl] at hi ⊢
  rw [List.length_replicate] at hi
  exact Qa9 hi
end Go.Proofs
end

section
open Go Go.Am
namespace Go.Proofs
set_option maxRecDepth 20000
variable {c : Conf} {n : Int} {r e : Nat}
theorem Hist.req {s : St} (h : Hist s) {q : Nat} {w : Wrk} (hq : q < s.works.length) (hw : w.req = (s.works.getD q default).req) (h0 : (s.works.getD q default).state ≠ 0) : Hist (s.setWork q w) := by
 refine ⟨h.right, h.rings, fun i hi hs => ?_, fun i hi hs => ?_⟩
 ·simp only [St.setWork] at hi hs ⊢
  rw [QbA hq] at hs ⊢
  split
  ·rename_i z; subst z; rw [hw]; exact h.works i hi h0
  ·rename_i z; rw [if_neg z] at hs; exact h.works i hi hs
 ·simp only [St.setWork] at hi hs ⊢
  rw [QbA hq] at hs ⊢
  split
  ·rename_i z; subst z; rw [hw]; exact h.apart i hi h0
  ·rename_i z; rw [if_neg z] at hs; exact h.apart i hi hs
theorem Und.set {s : St} (h : Und s) {q : Nat} {w : Wrk} (hw : Qid w = true → w.ent.version ≤ s.next) {t : St} (h1 : t.works = s.works.set q w) (h2 : t.next = s.next) : Und t := fun i hi hu => by
 rw [h1] at hi hu ⊢
 rw [List.length_set] at hi
 rw [h2]
 by_cases z : q < s.works.length
 ·rw [QbA z] at hu ⊢
  split
  ·rename_i y; rw [if_pos y] at hu; exact hw hu
  ·rename_i y; rw [if_neg y] at hu; exact h i hi hu
 ·rw [List.set_eq_of_length_le (by omega)] at hu ⊢
  exact h i hi hu
theorem Gs.setWork {s : St} (h : Gs c n e s) {q : Nat} {w : Wrk} (hq : q < s.works.length) (hr : w.req = (s.works.getD q default).req) (h0 : (s.works.getD q default).state ≠ 0) (hw : Qd3 s.cfg w = true) (hu : Qid w = true → w.ent.version ≤ s.next) : Gs c n e (s.setWork q w) := by
 have hl := h.len
 have hQ := h.gd.val.queues q (by omega)
 refine ⟨⟨h.gd.val.setWork hq hw (Or.inr ?_), h.gd.cfg, h.gd.next, h.gd.rets, h.gd.evs, h.gd.sav⟩, h.hist.req hq hr h0, h.und.set hu rfl rfl, h.serial, h.inc⟩
 rw [hr]
 exact hQ.req.resolve_left h0
theorem Gs.other {s t : St} (h : Gs c n e s) {n' : Int} (hv : Val t) (h1 : t.cfg = s.cfg) (h2 : t.rings = s.rings) (h3 : t.works = s.works) (h4 : t.evs = s.evs) (h5 : t.serial = s.serial) (h6 : s.next ≤ t.next) (h7 : t.next ≤ n') (h8 : t.rets = s.rets) (h9 : t.sav = s.sav) : Gs c n' e t := by
 refine ⟨⟨hv, h1.trans h.gd.cfg, h7, by rw [h8]; exact h.gd.rets, by rw [h4]; exact h.gd.evs, h9.trans h.gd.sav⟩, ⟨?_, ?_, ?_, ?_⟩, fun i hi hu => ?_, by rw [h5]; exact h.serial, by rw [h4]; exact h.inc⟩
 ·rw [h4]; exact h.hist.right
 ·rw [h4, h2]; exact h.hist.rings
 ·rw [h4, h2, h3]; exact h.hist.works
 ·rw [h2, h3]; exact h.hist.apart
 ·rw [h3] at hi hu ⊢
  have := h.und i hi hu
  omega
theorem Gs.put {s : St} (h : Gs c n e s) (z : Int) (x : Rec) : Gs c n e (s.put z x) := h.other (h.gd.val.put z x) rfl rfl rfl rfl rfl (Int.le_refl _) h.gd.next rfl rfl
theorem Gs.bump {s : St} (h : Gs c n e s) (hn : n ≤ 1000000) : Gs c (n + 1) e s.bump := h.other (h.gd.val.bump (by have := h.gd.next; omega)) rfl rfl rfl rfl rfl (by show s.next ≤ s.next + 1; omega) (by show s.next + 1 ≤ _; have := h.gd.next; omega) rfl rfl
theorem Gs.take {s : St} (h : Gs c n e s) (i t : Int) : Gs c n e { s with owner := (QuH s.owner i t).1 } := by
 have := QuN h.gd.val.parts.locks i t
 exact h.other (h.gd.val.withLocks this.1 this.2) rfl rfl rfl rfl rfl (Int.le_refl _) h.gd.next rfl rfl
theorem Gs.install {s : St} (h : Gs c n e s) {x : Ent} (hx : x.block < c.blocks) : Gs c n e (s.install x) := by
 have hv := h.gd.val.install (e := x) (by rw [h.gd.cfg]; exact hx)
 obtain ⟨l, m, q⟩ := Qlx s x
 rw [q] at hv ⊢
 exact h.other hv rfl rfl rfl rfl rfl (Int.le_refl _) h.gd.next rfl rfl
theorem Gs.pend {s : St} (h : Gs c n e s) (z : Int) : Gs c n e { s with pend := (QuI s.live s.pend z).1 } :=
 h.other (h.gd.val.withPend (QuK h.gd.val.parts.counts z)) rfl rfl rfl rfl rfl (Int.le_refl _) h.gd.next rfl rfl
theorem QuM {r : Req} (h : cmdE c r = 0) : 0 ≤ r.block ∧ r.block < c.blocks ∨ r.kind = 4 := by
 unfold cmdE at h
 split at h
 ·cases h
 ·split at h
  ·cases h
  ·omega
theorem Gs.block {s : St} (h : Gs c n e s) {q : Nat} (hq : q < s.works.length) (h5 : (s.works.getD q default).state = 5) : (s.works.getD q default).req.block < c.blocks := by
 have hl := h.len
 have hw := (h.gd.val.queues q (by omega)).work
 unfold Qd3 at hw
 rw [decide_eq_true_eq, h.gd.cfg] at hw
 rcases hw with z | ⟨z1, z2, z3, z4⟩
 ·omega
 ·rcases QuM z1 with y | y
  ·exact y.2
  ·have := z3 y; omega
end Go.Proofs
end

section
open Go Go.Am
namespace Go.Proofs
set_option maxRecDepth 20000
variable {c : Conf} {n : Int} {r e : Nat}
theorem Gs.cln {s : St} (h : Gs c n e s) (x : Cln) : Gs c n e { s with cln := x } :=
 h.other ⟨{ h.gd.val.parts with }, h.gd.val.queues, h.gd.val.evs⟩ rfl rfl rfl rfl rfl (Int.le_refl _) h.gd.next rfl rfl
theorem Gs.rel {s : St} (h : Gs c n e s) (b v fz fo tz to mv oz nz : Int) : Gs c n e { s with map := (relM s.map b v fz fo tz to mv).1, live := (Qar s.live s.pend oz nz true true).1 } := by
 have h1 := Qg5 h.gd.val.parts.counts oz nz true true
 exact h.other ((h.gd.val.withLive h1.1 h1.2).withMap (Qr0 h.gd.val.parts.map h.gd.val.parts.blocks _ _ _ _ _ _ _)) rfl rfl rfl rfl rfl (Int.le_refl _) h.gd.next rfl rfl
theorem Gs.sync {s : St} (h : Gs c n e s) : Gs c n e { s with dev := Qbo s.dev } :=
 h.other h.gd.val.sync rfl rfl rfl rfl rfl (Int.le_refl _) h.gd.next rfl rfl
theorem Gs.owner {s : St} (h : Gs c n e s) {o : List Int} (h1 : QbI o = true) (h2 : o.length = s.owner.length) : Gs c n e { s with owner := o } :=
 h.other (h.gd.val.withLocks h1 h2) rfl rfl rfl rfl rfl (Int.le_refl _) h.gd.next rfl rfl
structure Gz (s : St) : Prop where
 val : Val s
 hist : Hist s
 und : Und s
 next : s.next ≤ 100000
 serial : s.serial ≤ 100
 evs : s.evs.length ≤ 100
 rets : s.rets.length ≤ 100
 ents : s.sav.ents.length ≤ 100000
 recs : s.sav.recs.length ≤ 100000
 conf : s.cfg.queues ≤ 4
 inc : Inc s.evs
theorem Gz.small {s : St} (h : Gz s) : s.small := h.val.small (by have := h.rets; omega) (by have := h.evs; omega) (by have := h.ents; omega) (by have := h.recs; omega)
theorem Gs.sav {s : St} (h : Gs c n e s) (hn : n ≤ 100000) (he : e ≤ 100) (v : Sav) (h1 : v.ents.length ≤ 100000) (h2 : v.recs.length ≤ 100000) : Gz { s with sav := v } := by
 have h3 := confR_iff.1 (QR h.gd.conf).1
 refine ⟨⟨{ h.gd.val.parts with }, h.gd.val.queues, h.gd.val.evs⟩, ⟨h.hist.right, h.hist.rings, h.hist.works, h.hist.apart⟩, h.und, ?_, ?_, ?_, ?_, h1, h2, ?_, h.inc⟩
 ·have := h.gd.next; show s.next ≤ _; omega
 ·have := h.serial; show s.serial ≤ _; omega
 ·have := h.gd.evs; show s.evs.length ≤ _; omega
 ·have := h.gd.rets; show s.rets.length ≤ _; omega
 ·show s.cfg.queues ≤ 4; rw [h.gd.cfg]; omega
theorem Gz.withDev {s : St} (h : Gz s) {d : Dev} (h1 : check d = 0) (h2 : d.zones.length = s.dev.zones.length) (h3 : d.size = s.dev.size) : Gz { s with dev := d } :=
 ⟨h.val.withDev h1 h2 h3, ⟨h.hist.right, h.hist.rings, h.hist.works, h.hist.apart⟩, h.und, h.next, h.serial, h.evs, h.rets, h.ents, h.recs, h.conf, h.inc⟩
theorem Gz.put {s : St} (h : Gz s) (zone : Int) (r : Rec) : Gz (s.put zone r) :=
 h.withDev (check_ok.2 (QkV (check_ok.1 h.val.parts.dev) zone _)) (Qa7 _ _ _) (Qor _ _ _)
theorem QrQ {s : St} (h : Val s) : (allS s.map).length ≤ 100000 := by
 have hp := h.parts
 have hc := confR_iff.1 (QR hp.cfg).1
 have hm := Qbw hp.map
 unfold allS
 rw [if_pos hp.map, (QcJ hp.map).2.length_eq, List.length_flatten]
 have key : ∀ (l : List Nat) (b : Nat), (∀ x ∈ l, x ≤ b) → l.sum ≤ l.length * b := by
  intro l b hb
  induction l with
  | nil => simp
  | cons x l ih =>
   have h1 := hb x (List.mem_cons_self ..)
   have h2 := ih fun y hy => hb y (List.mem_cons_of_mem _ hy)
   simp only [List.sum_cons, List.length_cons, Nat.add_mul]
   omega
 have := key (s.map.map List.length) 128 (fun x hx => by
  obtain ⟨l, hl, rfl⟩ := List.mem_map.1 hx
  obtain ⟨i, hi, rfl⟩ := List.getElem_of_mem hl
  have := QgT hp.map hp.blocks (by omega) i
  rw [Qu _ _ hi] at this
  omega)
 rw [List.length_map] at this
 omega
end Go.Proofs
end

section
open Go Go.Am
namespace Go.Proofs
set_option maxRecDepth 20000
theorem QuC {l : List Evt} (h : Inc l) : ∀ k, k ≤ l.length → (Qmm l k).Pairwise (· < ·) ∧ ∀ x ∈ Qmm l k, ∃ i, i < k ∧ (l.getD i default).ret = false ∧ (l.getD i default).serial = x ∧ Qq4 l x = false
 | 0, _ => ⟨List.Pairwise.nil, fun x hx => by cases hx⟩
 | k + 1, hk => by
  obtain ⟨h1, h2⟩ := QuC h k (by omega)
  simp only [Qmm]
  split
  ·rename_i c
   refine ⟨?_, fun x hx => ?_⟩
   ·rw [List.pairwise_append]
    refine ⟨h1, List.pairwise_singleton _ _, fun a ha b hb => ?_⟩
    obtain ⟨i, i1, i2, i3, _⟩ := h2 a ha
    rw [List.mem_singleton] at hb
    subst hb
    rw [← i3]
    exact h i k i1 (by omega) i2 c.1
   ·rcases List.mem_append.1 hx with hx | hx
    ·obtain ⟨i, i1, i2, i3, i4⟩ := h2 x hx
     exact ⟨i, by omega, i2, i3, i4⟩
    ·rw [List.mem_singleton] at hx
     subst hx
     exact ⟨k, by omega, c.1, rfl, c.2.1⟩
  ·refine ⟨h1, fun x hx => ?_⟩
   obtain ⟨i, i1, i2, i3, i4⟩ := h2 x hx
   exact ⟨i, by omega, i2, i3, i4⟩
theorem QuD {l : List Evt} {n : Int} (ha : Qq4 l n = false) : ∀ k, k ≤ l.length → (QsU (l.take k) n = true ↔ n ∈ Qmm l k)
 | 0, _ => by simp [QsU, Qmm]
 | k + 1, hk => by
  have ih := QuD ha k (by omega)
  have e : QsU (l.take (k + 1)) n = (QsU (l.take k) n || (!(l.getD k default).ret && decide ((l.getD k default).serial = n))) := by
   unfold QsU
   rw [Qb9 l (by omega), List.any_append]
   simp
  rw [e]
  simp only [Qmm]
  split
  ·rename_i c
   rw [List.mem_append, List.mem_singleton, ← ih]
   simp only [Bool.or_eq_true, Bool.and_eq_true, Bool.not_eq_true', decide_eq_true_eq]
   exact ⟨fun z => z.imp id fun z => z.2.symm, fun z => z.imp id fun z => ⟨c.1, z.symm⟩⟩
  ·rename_i c
   rw [← ih]
   simp only [Bool.or_eq_true, Bool.and_eq_true, Bool.not_eq_true', decide_eq_true_eq]
   refine ⟨fun z => z.elim id fun z => ?_, Or.inl⟩
   cases q : QsU (l.take k) n with
   | true => rfl
   | false => exact absurd ⟨z.1, by rw [z.2]; exact ha, by rw [z.2]; exact q⟩ c
theorem Gz.mem {s : St} (h : Gz s) {i : Nat} (hi : i < s.rings.length) (hs : (s.works.getD i default).state ≠ 0) : (s.works.getD i default).req.serial ∈ QtE s.evs := by
 have hl := h.hist.works i hi hs
 have := (QuD hl.ans s.evs.length (Nat.le_refl _)).1 (by rw [List.take_length]; exact hl.inv)
 exact this
theorem Gz.first {s : St} (h : Gz s) {n : Int} (hn : n ∈ QtE s.evs) : 0 < (QtE s.evs).length ∧ (QtE s.evs).getD 0 default ≤ n ∧ ((QtE s.evs).any fun x => decide (x < n)) = decide ((QtE s.evs).getD 0 default < n) := by
 have hs := (QuC h.inc s.evs.length (Nat.le_refl _)).1
 have hs : (QtE s.evs).Pairwise (· < ·) := hs
 generalize QtE s.evs = o at *
 have h0 : 0 < o.length := List.length_pos_of_mem hn
 have hmin : ∀ x ∈ o, o.getD 0 default ≤ x := fun x hx => by
  obtain ⟨i, hi, rfl⟩ := List.getElem_of_mem hx
  rw [Qu _ _ h0]
  by_cases c : i = 0
  ·subst c; exact Int.le_refl _
  ·have := List.pairwise_iff_getElem.1 hs 0 i h0 hi (by omega)
   omega
 refine ⟨h0, hmin n hn, ?_⟩
 rw [Bool.eq_iff_iff, List.any_eq_true, decide_eq_true_eq]
 constructor
 ·rintro ⟨x, hx, hxn⟩
  have := hmin x hx
  have := of_decide_eq_true hxn
  omega
 ·intro c
  exact ⟨o.getD 0 default, by rw [Qu _ _ h0]; exact List.getElem_mem h0, decide_eq_true c⟩
theorem Val.all {s : St} (h : Val s) : Qx s.map = true → AllS s.map (allM s.map) := fun hm => by
 have hp := h.parts
 have hc := confR_iff.1 (QR hp.cfg).1
 exact QtH hm (fun i => by have := QgT hp.map hp.blocks (by omega) i; omega) (fun i hi e he => by have := blocksIn_iff.1 hp.blocks i hi e he; omega)
def QaG (a b : List Int) (z : Int) : List Int × Bool :=
 if Qr a b = true ∧ 0 ≤ z ∧ z < a.length ∧ b.getD z.toNat default ≠ 1099511627776 then (b.set z.toNat (b.getD z.toNat default + 1), true) else (b, false)
theorem Qhv {a b : List Int} (h : Qr a b = true) : ∀ i, i < a.length → 0 ≤ a.getD i default ∧ a.getD i default ≤ 1099511627776 ∧ 0 ≤ b.getD i default ∧ b.getD i default ≤ 1099511627776 := by
 unfold Qr at h
 rw [Bool.and_eq_true, decide_eq_true_eq, decide_eq_true_eq] at h
 exact h.2
theorem QnI (a b : List Int) (z : Int) (ha : a.length ≤ 1000000) (hb : b.length ≤ 1000000) : PS 160 [.a [Qh a, Qh b], .c (.int .i64 z)] (.c (.bool (Qr a b && decide (0 ≤ z ∧ z < a.length)))) := by
 refine PSpec.rm ?_
 refine ov0 hΓ Tryz.func160 18 0 [.tmp 4] Tryz.ntmps160 Tryz.results160 ?_
 refine CallN.pureA Qfu (QfE a b ha hb ) (Go0 ?_)
 refine RM.i1 ?_
 cases Qr a b with
 | false => rfl
 | true =>
  rw [Bool.eq_iff_iff]
  simp
theorem QnN : HB 160 := hB Tryz.func160
theorem QnV (a b : List Int) (ha : a.length ≤ 1000000) (hb : b.length ≤ 1000000) : CS 159 [.a [Qh a, Qh b]] [] fun s H => s = .a [.sl 0 1 a.length a.length false, .sl 1 1 b.length b.length false] ∧ H = [.arr 3 1 a.length (QaK .i64 a), .arr 3 1 b.length (QaK .i64 b)] := by
 refine CSpec.rm ?_
 refine ov0 hΓ Tryz.func159 10 0 [.cell 2 34] Tryz.ntmps159 Tryz.results159 ?_
 refine Dr.mkE hΓ hMix [148] [(3, 2), (4, 2)] (by kernel_rfl) (Go0 ?_)
 refine CallE.autoQ [] Qfo (Qdl a.length (QaK .i64 a) false (by omega) (fun _ _ _ _ => rfl)) (Go0 ?_)
 refine CallE.autoQ [] Qfo (Qdl b.length (QaK .i64 b) false (by omega) (fun _ _ _ _ => rfl)) (Go0 ?_)
 refine ⟨_, _, ?_, rfl, rfl⟩
 exact RM.renW [2, 3] (by decide) wb0 wb0
theorem Qog : HB 159 := hB Tryz.func159
set_option maxHeartbeats 2000000 in
theorem QhW (a b : List Int) (z : Int) (ha : a.length ≤ 1000000) (hb : b.length ≤ 1000000) : PS 114 [.a [Qh a, Qh b], .c (.int .i64 z)] (.t [.inr [Qh a, Qh (QaG a b z).1], .inl (.bool (QaG a b z).2)]) := by
 refine PSpec.rm ?_
 refine ov0 hΓ Tryz.func114 30 0 [.cell 4 34, .tmp 5] Tryz.ntmps114 Tryz.results114 ?_
 refine CallN.autoI [] Qog (QnV a b ha hb) (PlainH.arr (fun _ _ => rfl) (PlainH.arr (fun _ _ => rfl) PlainH.nil)) (Go0 ?_)
 refine CallN.pureA QnN (QnI a b z ha hb ) ?_
 conv=>whnf
 by_cases c0 : Qr a b = true ∧ 0 ≤ z ∧ z < a.length
 ·have hl := (countsOk_iff.1 c0.1).1
  have hi : z.toNat < b.length := by omega
  rw [c0.1, decide_eq_true c0.2]
  refine Go0 ?_
  by_cases c : b.getD z.toNat default = 1099511627776
  ·refine Br.yes (by simpa [-List.getD_eq_getElem?_getD] using c) ?_
   refine Go0 ?_
   rw [show QaG a b z = (b, false) from if_neg fun q => q.2.2.2 c]
   exact RM.allT (FwT.consL (FwL.cons (Fw.ints rfl rfl rfl (fun _ _ _ _ => rfl)) (FwL.cons (Fw.ints rfl rfl rfl (fun _ _ _ _ => rfl)) FwL.nil)) (FwT.consC (Fw.same rfl) FwT.nil))
  ·refine Br.no (by simpa [-List.getD_eq_getElem?_getD] using c) ?_
   refine Go0 ?_
   have hr := Qhv c0.1 z.toNat (by omega)
   have w0 := Qa (b.getD z.toNat default + 1) (by omega) (by omega)
   rw [show QaG a b z = (b.set z.toNat (b.getD z.toNat default + 1), true) from if_pos ⟨c0.1, c0.2.1, c0.2.2, c⟩]
   refine Frc.mk (.c (.int .i64 (b.getD z.toNat default))) rfl (Go0 ?_)
   exact RM.allT (FwT.consL (FwL.cons (Fw.ints rfl rfl rfl (fun _ _ _ _ => rfl)) (FwL.cons (Fw.ints rfl rfl (by simp) (fun a _ b hb => by rw [w0]; exact Qnd hi a b hb)) FwL.nil)) (FwT.consC (Fw.same rfl) FwT.nil))
 ·rw [show (Qr a b && decide (0 ≤ z ∧ z < (a.length : Int))) = false by
   cases h : Qr a b with
   | false => rfl
   | true => rw [decide_eq_false fun z => c0 ⟨h, z⟩]; rfl]
  refine Go0 ?_
  refine Br.yes rfl (Go0 ?_)
  rw [show QaG a b z = (b, false) from if_neg fun q => c0 ⟨q.1, q.2.1, q.2.2.1⟩]
  exact RM.allT (FwT.consL (FwL.cons (Fw.ints rfl rfl rfl (fun _ _ _ _ => rfl)) (FwL.cons (Fw.ints rfl rfl rfl (fun _ _ _ _ => rfl)) FwL.nil)) (FwT.consC (Fw.same rfl) FwT.nil))
theorem QhQ : HB 114 := hB Tryz.func114
end Go.Proofs
end
