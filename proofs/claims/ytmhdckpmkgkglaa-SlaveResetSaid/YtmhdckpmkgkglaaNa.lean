/- Frames on a wire in memory; the line in memory. -/
import Derived.Test.YtmhdckpmkgkglaaLr
import Derived.Test.YtmhdckpmkgkglaaMk
import Derived.Deep.RegionLaw
set_option linter.unusedVariables false
set_option linter.unusedSimpArgs false
namespace Go.Proofs.Ytmhdckpmkgkglaa
open Go.RowKit

section
variable {P : Program}
theorem run_append_off2 (w : World) (base : Nat) (t ty e : TypeId) (i : TypeInfo) (z : Value) (size bytes : Nat) (ht : P.underlying t = some (.slice e)) (hi : P.info? e = some i) (hz : i.zero = some z)
    (hsize : i.size = size) (hby : i.bytes = bytes) (hzs : z.cells.size = size) (hsz : 0 < size)
    (v : Value) (n : Nat) (xs : List Value) (hown : OffRow w base e size v n xs)
    (a : Addr) (m c : Nat) (news : List Value) (hl : news.length = m * size) (hnews : ∀ j u, news[j]? = some u → w.cell? (a.add j) = some u) (h1 : ∀ u ∈ news, u.oneCell' = true)
    (h63 : n + m ≤ maxLen) (hbytes : (n + m) * bytes ≤ 140737488355328) (hbase : base ≤ w.heap.size) (hm0 : 0 < m) :
    ∃ v' w', (Builtin.append_ #[t, t] ty #[v, .slice (some a) m c]).run P w = .ok v' w' ∧ OffRow w' base e size v' (n + m) (xs ++ news) ∧ w.grownBy w' v.ownBlock ∧ (v'.ownBlock = v.ownBlock ∨ v'.ownBlock = some w.heap.size) := by
  subst hsize
  subst hby
  have hsmall : n + m ≤ 9223372036854775807 := by simp only [maxLen] at h63; omega
  have hlen : (xs ++ news).length = (n + m) * i.size := by rw [List.length_append, hown.1, hl, Nat.add_mul]
  have grown : ∀ (old : Nat), old < n + m → ∀ (row : Option Nat),
      OffRow (w.drew.alloc (.cells (xs.toArray ++ news.toArray ++ Builtin.zeroCells z.cells (grownCap w (n + m) old e - (n + m))) e)) base e i.size
        (.slice (some ⟨w.heap.size, 0, none⟩) (n + m) (grownCap w (n + m) old e)) (n + m) (xs ++ news) ∧
      w.grownBy (w.drew.alloc (.cells (xs.toArray ++ news.toArray ++ Builtin.zeroCells z.cells (grownCap w (n + m) old e - (n + m))) e)) row := by
    intro old ho row
    have hge := grownCap_ge w (n + m) old e
    have hcm : grownCap w (n + m) old e ≤ maxLen := grownCap_le_maxLen w (n + m) old e h63
    refine ⟨⟨hlen, .inr ⟨w.heap.size, 0, _, _, by rw [Nat.zero_mul], hbase, heap_alloc_new w.drew _, hge, hcm, ?_, ?_⟩⟩, ⟨rfl, rfl, rfl, by simp, fun k hk _ => Below.heap_alloc w.drew _ k hk⟩⟩
    · refine Nat.le_of_eq (Eq.symm ?_)
      simp only [Array.size_append, List.size_toArray, size_zeroCells, hzs, hown.1, hl, ← Nat.add_mul]
      congr 1
      omega
    · simp only [Array.toList_append, List.append_assoc, Nat.zero_mul, List.drop_zero]
      rw [← List.append_assoc, ← hlen]
      exact List.take_left
  rcases hown.2 with ⟨rfl, rfl⟩ | ⟨g, o, cap, cur, rfl, hbg, hg, hnc, hcm, hcs, htake⟩
  · have hx : xs = [] := List.eq_nil_of_length_eq_zero (by simpa using hown.1)
    subst hx
    have hr := run_append_nil (P := P) w t ty e i z ht hi hz a m c news hl hnews (by omega) (by omega) (by have hb := hbytes; simp only [Nat.zero_add] at hb; omega)
    have hgr := grown 0 (by omega) (Value.ownBlock (.slice none 0 0))
    simp only [Nat.zero_add, List.nil_append, Array.empty_append] at hgr ⊢
    exact ⟨_, _, hr, hgr.1, hgr.2, .inr rfl⟩
  · by_cases hroom : n + m ≤ cap
    · have hfit : o * i.size + n * i.size + news.length ≤ cur.size := by refine Nat.le_trans ?_ hcs; rw [hl, ← Nat.add_mul, ← Nat.add_mul]; exact Nat.mul_le_mul_right _ (by omega)
      have hf := run_firstCells_some (P := P) w i.size m a m c news hl hnews
      have hst := run_storeCells_at P g (o * i.size + n * i.size) e news 0 cur w hg (by simpa using hfit) h1
      simp only [Nat.add_zero] at hst
      refine ⟨.slice (some ⟨g, o * i.size, none⟩) (n + m) cap, w.setRow g (cur.toList.take (o * i.size + n * i.size) ++ news ++ cur.toList.drop (o * i.size + n * i.size + news.length)).toArray, ?_,
        ⟨hlen, .inr ⟨g, o, cap, _, rfl, hbg, setRow_heap w g cur _ e _ hg, hroom, hcm, ?_, ?_⟩⟩, ⟨rfl, rfl, rfl, by simp, fun k _ hk => setRow_other w g k _ (fun e => hk (by simp [Value.ownBlock, e]))⟩, .inl rfl⟩
      · simp [Builtin.append_, run_underlying ht, sizeOf, typeInfo, hi, Builtin.lenOf, hroom, hf, Addr.add_lit, hst]
      · simp only [List.size_toArray, List.length_append, List.length_take, List.length_drop, Array.length_toList]
        omega
      · have := list_mid (news := news) htake hown.1 (by simpa using hfit)
        simpa [Nat.add_mul, hl] using this
    · have holds : ∀ j u, xs[j]? = some u → w.cell? ((⟨g, o * i.size, none⟩ : Addr).add j) = some u := by
        intro j u hu
        rw [Addr.add_lit, blk_cell hg]
        rw [← htake] at hu
        have hj : j < n * i.size := by
          have := (List.getElem?_eq_some_iff.1 hu).1
          simp at this
          omega
        rw [List.getElem?_take, if_pos hj, List.getElem?_drop] at hu
        rw [← hu]
        simp
      have hr := run_append_grow (P := P) w t ty e i z ht hi hz ⟨g, o * i.size, none⟩ n cap xs hown.1 holds a m c news hl hnews (by omega) (by omega) (growslice_fits (by omega) hbytes)
      have hgr := grown cap (by omega) (Value.ownBlock (.slice (some ⟨g, o * i.size, none⟩) n cap))
      exact ⟨_, _, hr, hgr.1, hgr.2, .inr rfl⟩

theorem step_append_off2 {w : World} {ops : Array Oper} {o : Oper} {a : Act} {K : Act → World → Prop} {Q : Exit → Act → World → Prop} {E : Prop} (hgd : o.guard = none) (s x : Operand) (t : TypeId)
    (ho : o.op = .call { callee := .builtin .append, args := #[s, x], argTypes := #[t, t] })
    (base : Nat) (e : TypeId) (i : TypeInfo) (z : Value) (size bytes : Nat) (ht : P.underlying t = some (.slice e)) (hi : P.info? e = some i) (hz : i.zero = some z)
    (hsize : i.size = size) (hby : i.bytes = bytes) (hzs : z.cells.size = size) (hsz : 0 < size)
    (v : Value) (n : Nat) (xs : List Value) (hs : a.eval s = v) (hown : OffRow w base e size v n xs)
    (ad : Addr) (m c : Nat) (news : List Value) (hx : a.eval x = .slice (some ad) m c) (hl : news.length = m * size) (hnews : ∀ j u, news[j]? = some u → w.cell? (ad.add j) = some u) (h1 : ∀ u ∈ news, u.oneCell' = true)
    (h63 : n + m ≤ maxLen) (hbytes : (n + m) * bytes ≤ 140737488355328) (hbase : base ≤ w.heap.size) (hm0 : 0 < m)
    (h : ∀ v' w', OffRow w' base e size v' (n + m) (xs ++ news) → w.grownBy w' v.ownBlock → (v'.ownBlock = v.ownBlock ∨ v'.ownBlock = some w.heap.size) → K (a.put o.dst v') w') :
    if Region.wanted o (yielded ops a.tmps) = true then Oper.wp P o a w K Q else E := by
  have hw : Region.wanted o (yielded ops a.tmps) = true := by simp [Region.wanted, hgd]
  rw [if_pos hw]
  obtain ⟨v', w', hr, h2, h3, h4⟩ := run_append_off2 (P := P) w base t o.type e i z size bytes ht hi hz hsize hby hzs hsz v n xs hown ad m c news hl hnews h1 h63 hbytes hbase hm0
  unfold Oper.wp execOp
  simp only [ho, resolve, invoke, builtin, Sem.run_bind, Sem.run_pure, Result.andThen_ok, List.map_toArray, List.map_cons, List.map_nil, hs, hx, hr]
  exact h v' w' h2 h3 h4
end

theorem off_ty {w : World} {B n size : Nat} {e : TypeId} {v : Value} {xs : List Value} (h : OffRow w B e size v n xs) (k : Nat) (hk : v.ownBlock = some k) : ∃ cs, w.heap[k]? = some (.cells cs e (0, 0)) := by
  rcases h.2 with ⟨rfl, _⟩ | ⟨g', o, cap, cur, rfl, _, hh, _⟩
  · simp [Value.ownBlock] at hk
  · simp [Value.ownBlock] at hk
    subst hk
    exact ⟨_, hh⟩
theorem off_of_own {w : World} {B n size : Nat} {e : TypeId} {v : Value} {xs : List Value} (h : w.ownsRow B e size v n xs) : OffRow w B e size v n xs := by
  refine ⟨h.1, ?_⟩
  rcases h.2 with h0 | ⟨g, cap, cur, rfl, hb, hh, h1, h2, h3, h4⟩
  · exact .inl h0
  · exact .inr ⟨g, 0, cap, cur, by simp, hb, hh, h1, h2, by simp [h3], by simpa using h4⟩
/-- The cells of frames. -/
def cells6 : List (FR × Value) → List Value
  | [] => []
  | p :: r => .int .u8 p.1.addr :: .int .u8 p.1.kind :: .int .u8 p.1.sess :: .int .u8 p.1.seq :: .int .u8 p.1.ack :: p.2 :: cells6 r
theorem cells6_len (l : List (FR × Value)) : (cells6 l).length = l.length * 6 := by
  induction l with
  | nil => rfl
  | cons p r ih => simp only [cells6, List.length_cons, ih]; omega
theorem cells6_app (l : List (FR × Value)) (p : FR × Value) : cells6 (l ++ [p]) = cells6 l ++ [.int .u8 p.1.addr, .int .u8 p.1.kind, .int .u8 p.1.sess, .int .u8 p.1.seq, .int .u8 p.1.ack, p.2] := by
  induction l with
  | nil => rfl
  | cons q r ih => simp only [List.cons_append, cells6, ih]
theorem cells6_one (l : List (FR × Value)) (h : ∀ p ∈ l, p.2.oneCell' = true) : ∀ u ∈ cells6 l, u.oneCell' = true := by
  induction l with
  | nil => intro u hu; simp [cells6] at hu
  | cons q r ih =>
    intro u hu
    simp only [cells6, List.mem_cons] at hu
    rcases hu with rfl | rfl | rfl | rfl | rfl | rfl | hu
    · rfl
    · rfl
    · rfl
    · rfl
    · rfl
    · exact h q (by simp)
    · exact ih (fun p hp => h p (by simp [hp])) u hu
/-- Frames on a wire, each with the slice of its bytes. -/
structure WireIn (w : World) (B : Nat) (v : Value) (ps : List (FR × Value)) : Prop where
  row : OffRow w B 29 6 v ps.length (cells6 ps)
  bs : ∀ p ∈ ps, w.ownsRow B 5 1 p.2 p.1.b.length (bytesV p.1.b)
theorem WireIn.kept {w w1 : World} {B B' : Nat} {v : Value} {ps : List (FR × Value)} {ts : List TypeId} (h : WireIn w B v ps) (hk : Kept B' ts w w1) (h1 : 29 ∉ ts) (h2 : 5 ∉ ts) : WireIn w1 B v ps :=
  ⟨h.row.keep fun k hkk => by
    obtain ⟨cs, hh⟩ := off_ty h.row k hkk
    exact hk.block k (blk_lt hh) (.inr ⟨_, _, _, hh, h1⟩), fun p hp => hk.own h2 (h.bs p hp)⟩
theorem WireIn.below {w w1 : World} {B : Nat} {v : Value} {ps : List (FR × Value)} (h : WireIn w B v ps) (hb : Below w.heap.size w w1) : WireIn w1 B v ps :=
  h.kept (Kept.of_below hb (B := 0) (ts := [])) (by simp) (by simp)
/-- Another wire's row is written. -/
theorem WireIn.other {w w1 : World} {B : Nat} {v v2 : Value} {ps qs : List (FR × Value)} (h : WireIn w B v ps) (hg : w.grownBy w1 v2.ownBlock) (h2 : OffRow w B 29 6 v2 qs.length (cells6 qs)) (hd : ∀ k, v.ownBlock = some k → v2.ownBlock ≠ some k) : WireIn w1 B v ps :=
  ⟨h.row.grown hg fun k hk e => hd k hk e.symm, fun p hp => own_keep (h.bs p hp) fun k hk => by
    refine hg.block k (own_lt (h.bs p hp) k hk).2 (fun e => ?_)
    obtain ⟨cs, fr, hh⟩ := own_ty (h.bs p hp) k hk
    obtain ⟨cs2, hh2⟩ := off_ty h2 k e.symm
    rw [hh] at hh2
    cases hh2⟩
/-- The line in memory. -/
structure LineIn (w : World) (B x gm gs : Nat) (vd vu : Value) (ds us : List (FR × Value)) (L : LS) : Prop where
  ge : B ≤ x
  blk : w.heap[x]? = some (.cells #[.pointer (some ⟨gm, 0, none⟩), .pointer (some ⟨gs, 0, none⟩), vd, vu, .int .i64 (L.sent : Int), .int .i64 (L.came : Int), .int .i64 (L.offered : Int), .int .i64 (L.heard : Int)] 63 (0, 0))
  m : MasterAt w B gm L.M
  s : SlaveAt w B gs L.S
  d : WireIn w B vd ds
  u : WireIn w B vu us
  de : ds.map Prod.fst = L.down
  ue : us.map Prod.fst = L.up
  dj : ∀ k, vd.ownBlock = some k → vu.ownBlock ≠ some k
def LineAt (w : World) (B x gm gs : Nat) (L : LS) : Prop := ∃ vd vu ds us, LineIn w B x gm gs vd vu ds us L
theorem LineIn.below {w w1 : World} {B x gm gs : Nat} {vd vu : Value} {ds us : List (FR × Value)} {L : LS} (h : LineIn w B x gm gs vd vu ds us L) (hb : Below w.heap.size w w1) : LineIn w1 B x gm gs vd vu ds us L :=
  ⟨h.ge, blk_below' h.blk hb, h.m.below hb, h.s.below hb, h.d.below hb, h.u.below hb, h.de, h.ue, h.dj⟩
theorem LineIn.lt {w : World} {B x gm gs : Nat} {vd vu : Value} {ds us : List (FR × Value)} {L : LS} (h : LineIn w B x gm gs vd vu ds us L) : x < w.heap.size := blk_lt h.blk
theorem WireIn.lt {w : World} {B : Nat} {v : Value} {ps : List (FR × Value)} (h : WireIn w B v ps) : ∀ k, v.ownBlock = some k → k < w.heap.size := fun k hk => (h.row.lt k hk).2
end Go.Proofs.Ytmhdckpmkgkglaa
