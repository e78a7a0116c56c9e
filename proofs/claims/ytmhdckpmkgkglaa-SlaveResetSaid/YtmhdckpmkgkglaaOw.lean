/- Rows of one's own that begin somewhere in their block: what a queue is ('q = append(q, x)', 'q = q[1:]'). -/
import Derived.Test.YtmhdckpmkgkglaaBase
import Derived.Laws.AppendOwn
import Derived.Deep.RegionLaw
set_option linter.unusedVariables false
set_option linter.unusedSimpArgs false
namespace Go.Proofs.Ytmhdckpmkgkglaa
open Go.RowKit

/-- A row of one's own that begins somewhere in its block. -/
def OffRow (w : World) (base : Nat) (e : TypeId) (size : Nat) (v : Value) (n : Nat) (xs : List Value) : Prop :=
  xs.length = n * size ∧
  ((v = .slice none 0 0 ∧ n = 0) ∨
   ∃ g o cap cur, v = .slice (some ⟨g, o * size, none⟩) n cap ∧ base ≤ g ∧ w.heap[g]? = some (.cells cur e (0, 0)) ∧ n ≤ cap ∧ cap ≤ maxLen ∧ (o + cap) * size ≤ cur.size ∧ (cur.toList.drop (o * size)).take (n * size) = xs)

section
variable {P : Program} {w w1 : World} {base : Nat} {e : TypeId} {size n : Nat} {v : Value} {xs : List Value}
theorem OffRow.nil (w : World) (base : Nat) (e : TypeId) (size : Nat) : OffRow w base e size (.slice none 0 0) 0 [] := ⟨by simp, .inl ⟨rfl, rfl⟩⟩
theorem OffRow.lt (h : OffRow w base e size v n xs) : ∀ k, v.ownBlock = some k → base ≤ k ∧ k < w.heap.size := by
  intro k hk
  rcases h.2 with ⟨rfl, _⟩ | ⟨g, o, cap, cur, rfl, hb, hg, _⟩
  · simp [Value.ownBlock] at hk
  · simp [Value.ownBlock] at hk
    subst hk
    exact ⟨hb, blk_lt hg⟩
theorem OffRow.keep (h : OffRow w base e size v n xs) (hk : ∀ k, v.ownBlock = some k → w1.heap[k]? = w.heap[k]?) : OffRow w1 base e size v n xs := by
  refine ⟨h.1, ?_⟩
  rcases h.2 with h0 | ⟨g, o, cap, cur, rfl, hb, hg, h1⟩
  · exact .inl h0
  · exact .inr ⟨g, o, cap, cur, rfl, hb, (hk g rfl).trans hg, h1⟩
theorem OffRow.below (h : OffRow w base e size v n xs) (hb : Below w.heap.size w w1) : OffRow w1 base e size v n xs :=
  h.keep fun k hk => hb.block k (h.lt k hk).2
theorem OffRow.grown (h : OffRow w base e size v n xs) {r : Option Nat} (hg : w.grownBy w1 r) (hr : ∀ k, v.ownBlock = some k → some k ≠ r) : OffRow w1 base e size v n xs :=
  h.keep fun k hk => hg.block k (h.lt k hk).2 (hr k hk)

theorem OffRow.slice (h : OffRow w base e size v n xs) : ∃ A c, v = .slice A n c := by
  rcases h.2 with ⟨rfl, rfl⟩ | ⟨_, _, cap, _, rfl, _⟩
  · exact ⟨none, 0, rfl⟩
  · exact ⟨_, cap, rfl⟩
theorem OffRow.ne {t' : TypeId} {g : Nat} {cs : Array Value} {fr : Nat × Nat} (h : OffRow w base e size v n xs) (hg : w.heap[g]? = some (.cells cs t' fr)) (hne : e ≠ t') (k : Nat) (hk : v.ownBlock = some k) : k ≠ g := by
  rintro rfl
  rcases h.2 with ⟨rfl, _⟩ | ⟨g', o, cap, cur, rfl, _, hh, _⟩
  · simp [Value.ownBlock] at hk
  · simp [Value.ownBlock] at hk
    subst hk
    rw [hh] at hg
    injection hg with hg
    injection hg with _ h2 _
    exact hne h2
theorem news_one {w : World} {b t : Nat} {u : Value} {fr : Nat × Nat} (h : w.heap[b]? = some (.cells #[u] t fr)) : ∀ (j : Nat) (x : Value), [u][j]? = some x → w.cell? ((⟨b, 0, none⟩ : Addr).add j) = some x := by
  intro j x hx
  rcases j with _ | j
  · simp at hx
    subst hx
    exact blk_cell h 0
  · simp at hx
theorem own_one {w : World} {B t size n : Nat} {v : Value} {xs : List Value} (h : w.ownsRow B t size v n xs) : v.oneCell' = true := by
  rcases h.2 with ⟨rfl, _⟩ | ⟨g, cap, cur, rfl, _⟩ <;> rfl

theorem list_mid {l : List Value} {a n : Nat} {xs news : List Value} (h : (l.drop a).take n = xs) (hn : xs.length = n) (hfit : a + n + news.length ≤ l.length) :
    ((l.take (a + n) ++ news ++ l.drop (a + n + news.length)).drop a).take (n + news.length) = xs ++ news := by
  rw [List.append_assoc, List.drop_append_of_le_length (by simp; omega), List.drop_take, show a + n - a = n by omega, h,
    List.take_append, List.take_of_length_le (by omega), show n + news.length - xs.length = news.length by omega, List.take_append, List.take_of_length_le (Nat.le_refl _), Nat.sub_self, List.take_zero, List.append_nil]

theorem run_append_off (w : World) (base : Nat) (t ty e : TypeId) (i : TypeInfo) (z : Value) (size bytes : Nat) (ht : P.underlying t = some (.slice e)) (hi : P.info? e = some i) (hz : i.zero = some z)
    (hsize : i.size = size) (hby : i.bytes = bytes) (hzs : z.cells.size = size) (hsz : 0 < size)
    (v : Value) (n : Nat) (xs : List Value) (hown : OffRow w base e size v n xs)
    (a : Addr) (m c : Nat) (news : List Value) (hl : news.length = m * size) (hnews : ∀ j u, news[j]? = some u → w.cell? (a.add j) = some u) (h1 : ∀ u ∈ news, u.oneCell' = true)
    (h63 : n + m ≤ maxLen) (hbytes : (n + m) * bytes ≤ 140737488355328) (hbase : base ≤ w.heap.size) (hm0 : 0 < m) :
    ∃ v' w', (Builtin.append_ #[t, t] ty #[v, .slice (some a) m c]).run P w = .ok v' w' ∧ OffRow w' base e size v' (n + m) (xs ++ news) ∧ w.grownBy w' v.ownBlock := by
  subst hsize
  subst hby
  have hsmall : n + m ≤ 9223372036854775807 := by simp only [maxLen] at h63; omega
  have hlen : (xs ++ news).length = (n + m) * i.size := by rw [List.length_append, hown.1, hl, Nat.add_mul]
  have grown : ∀ (old : Nat), old < n + m → ∀ (row : Option Nat),
      OffRow (w.drew.alloc (.cells (xs.toArray ++ news.toArray ++ Builtin.zeroCells z.cells (grownCap w (n + m) old e - (n + m))) e)) base e i.size
        (.slice (some ⟨w.heap.size, 0, none⟩) (n + m) (grownCap w (n + m) old e)) (n + m) (xs ++ news) ∧
      w.grownBy (w.drew.alloc (.cells (xs.toArray ++ news.toArray ++ Builtin.zeroCells z.cells (grownCap w (n + m) old e - (n + m))) e)) row := by
    intro old ho row
    have hge := grownCap_ge w (n + m) old e
    have hcm : grownCap w (n + m) old e ≤ maxLen := grownCap_le_maxLen w (n + m) old e h63
    refine ⟨⟨hlen, .inr ⟨w.heap.size, 0, _, _, by rw [Nat.zero_mul], hbase, heap_alloc_new w.drew _, hge, hcm, ?_, ?_⟩⟩, ⟨rfl, rfl, rfl, by simp, fun k hk _ => Below.heap_alloc w.drew _ k hk⟩⟩
    · refine Nat.le_of_eq (Eq.symm ?_)
      simp only [Array.size_append, List.size_toArray, size_zeroCells, hzs, hown.1, hl, ← Nat.add_mul]
      congr 1
      omega
    · simp only [Array.toList_append, List.append_assoc, Nat.zero_mul, List.drop_zero]
      rw [← List.append_assoc, ← hlen]
      exact List.take_left
  rcases hown.2 with ⟨rfl, rfl⟩ | ⟨g, o, cap, cur, rfl, hbg, hg, hnc, hcm, hcs, htake⟩
  · have hx : xs = [] := List.eq_nil_of_length_eq_zero (by simpa using hown.1)
    subst hx
    have hr := run_append_nil (P := P) w t ty e i z ht hi hz a m c news hl hnews (by omega) (by omega) (by have hb := hbytes; simp only [Nat.zero_add] at hb; omega)
    have hgr := grown 0 (by omega) (Value.ownBlock (.slice none 0 0))
    simp only [Nat.zero_add, List.nil_append, Array.empty_append] at hgr ⊢
    exact ⟨_, _, hr, hgr.1, hgr.2⟩
  · by_cases hroom : n + m ≤ cap
    · have hfit : o * i.size + n * i.size + news.length ≤ cur.size := by refine Nat.le_trans ?_ hcs; rw [hl, ← Nat.add_mul, ← Nat.add_mul]; exact Nat.mul_le_mul_right _ (by omega)
      have hf := run_firstCells_some (P := P) w i.size m a m c news hl hnews
      have hst := run_storeCells_at P g (o * i.size + n * i.size) e news 0 cur w hg (by simpa using hfit) h1
      simp only [Nat.add_zero] at hst
      refine ⟨.slice (some ⟨g, o * i.size, none⟩) (n + m) cap, w.setRow g (cur.toList.take (o * i.size + n * i.size) ++ news ++ cur.toList.drop (o * i.size + n * i.size + news.length)).toArray, ?_,
        ⟨hlen, .inr ⟨g, o, cap, _, rfl, hbg, setRow_heap w g cur _ e _ hg, hroom, hcm, ?_, ?_⟩⟩, ⟨rfl, rfl, rfl, by simp, fun k _ hk => setRow_other w g k _ (fun e => hk (by simp [Value.ownBlock, e]))⟩⟩
      · simp [Builtin.append_, run_underlying ht, sizeOf, typeInfo, hi, Builtin.lenOf, hroom, hf, Addr.add_lit, hst]
      · simp only [List.size_toArray, List.length_append, List.length_take, List.length_drop, Array.length_toList]
        omega
      · have := list_mid (news := news) htake hown.1 (by simpa using hfit)
        simpa [Nat.add_mul, hl] using this
    · have holds : ∀ j u, xs[j]? = some u → w.cell? ((⟨g, o * i.size, none⟩ : Addr).add j) = some u := by
        intro j u hu
        rw [Addr.add_lit, blk_cell hg]
        rw [← htake] at hu
        have hj : j < n * i.size := by
          have := (List.getElem?_eq_some_iff.1 hu).1
          simp at this
          omega
        rw [List.getElem?_take, if_pos hj, List.getElem?_drop] at hu
        rw [← hu]
        simp
      have hr := run_append_grow (P := P) w t ty e i z ht hi hz ⟨g, o * i.size, none⟩ n cap xs hown.1 holds a m c news hl hnews (by omega) (by omega) (growslice_fits (by omega) hbytes)
      have hgr := grown cap (by omega) (Value.ownBlock (.slice (some ⟨g, o * i.size, none⟩) n cap))
      exact ⟨_, _, hr, hgr.1, hgr.2⟩

theorem wpList_append_off {w : World} {ops : Array Oper} {rest : List Oper} {o : Oper} {a : Act} {Q : Exit → Act → World → Prop} (hgd : o.guard = none) (s x : Operand) (t : TypeId)
    (ho : o.op = .call { callee := .builtin .append, args := #[s, x], argTypes := #[t, t] })
    (base : Nat) (e : TypeId) (i : TypeInfo) (z : Value) (size bytes : Nat) (ht : P.underlying t = some (.slice e)) (hi : P.info? e = some i) (hz : i.zero = some z)
    (hsize : i.size = size) (hby : i.bytes = bytes) (hzs : z.cells.size = size) (hsz : 0 < size)
    (v : Value) (n : Nat) (xs : List Value) (hs : a.eval s = v) (hown : OffRow w base e size v n xs)
    (ad : Addr) (m c : Nat) (news : List Value) (hx : a.eval x = .slice (some ad) m c) (hl : news.length = m * size) (hnews : ∀ j u, news[j]? = some u → w.cell? (ad.add j) = some u) (h1 : ∀ u ∈ news, u.oneCell' = true)
    (h63 : n + m ≤ maxLen) (hbytes : (n + m) * bytes ≤ 140737488355328) (hbase : base ≤ w.heap.size) (hm0 : 0 < m)
    (h : ∀ v' w', OffRow w' base e size v' (n + m) (xs ++ news) → w.grownBy w' v.ownBlock → wpList P ops Q rest (a.put o.dst v') w') : wpList P ops Q (o :: rest) a w :=
  wpList_plain hgd fun _ hK => by
    obtain ⟨v', w', hr, h2, h3⟩ := run_append_off (P := P) w base t o.type e i z size bytes ht hi hz hsize hby hzs hsz v n xs hown ad m c news hl hnews h1 h63 hbytes hbase hm0
    unfold Oper.wp execOp
    simp only [ho, resolve, invoke, builtin, Sem.run_bind, Sem.run_pure, Result.andThen_ok, List.map_toArray, List.map_cons, List.map_nil, hs, hx, hr]
    exact hK _ _ (h v' w' h2 h3)
theorem step_append_off {w : World} {ops : Array Oper} {o : Oper} {a : Act} {K : Act → World → Prop} {Q : Exit → Act → World → Prop} {E : Prop} (hgd : o.guard = none) (s x : Operand) (t : TypeId)
    (ho : o.op = .call { callee := .builtin .append, args := #[s, x], argTypes := #[t, t] })
    (base : Nat) (e : TypeId) (i : TypeInfo) (z : Value) (size bytes : Nat) (ht : P.underlying t = some (.slice e)) (hi : P.info? e = some i) (hz : i.zero = some z)
    (hsize : i.size = size) (hby : i.bytes = bytes) (hzs : z.cells.size = size) (hsz : 0 < size)
    (v : Value) (n : Nat) (xs : List Value) (hs : a.eval s = v) (hown : OffRow w base e size v n xs)
    (ad : Addr) (m c : Nat) (news : List Value) (hx : a.eval x = .slice (some ad) m c) (hl : news.length = m * size) (hnews : ∀ j u, news[j]? = some u → w.cell? (ad.add j) = some u) (h1 : ∀ u ∈ news, u.oneCell' = true)
    (h63 : n + m ≤ maxLen) (hbytes : (n + m) * bytes ≤ 140737488355328) (hbase : base ≤ w.heap.size) (hm0 : 0 < m)
    (h : ∀ v' w', OffRow w' base e size v' (n + m) (xs ++ news) → w.grownBy w' v.ownBlock → K (a.put o.dst v') w') :
    if Region.wanted o (yielded ops a.tmps) = true then Oper.wp P o a w K Q else E := by
  have hw : Region.wanted o (yielded ops a.tmps) = true := by simp [Region.wanted, hgd]
  rw [if_pos hw]
  obtain ⟨v', w', hr, h2, h3⟩ := run_append_off (P := P) w base t o.type e i z size bytes ht hi hz hsize hby hzs hsz v n xs hown ad m c news hl hnews h1 h63 hbytes hbase hm0
  unfold Oper.wp execOp
  simp only [ho, resolve, invoke, builtin, Sem.run_bind, Sem.run_pure, Result.andThen_ok, List.map_toArray, List.map_cons, List.map_nil, hs, hx, hr]
  exact h v' w' h2 h3
/-- The tail of a row: what 'q[1:]' is. -/
theorem OffRow.tail {t : TypeId} {i : TypeInfo} (ht : P.underlying t = some (.slice e)) (hi : P.info? e = some i) (hsize : i.size = size) (h : OffRow w base e size v (n + 1) xs) :
    ∃ v', (∀ W : World, (Instr.slice t v (some (.int .i64 1)) none none).run P W = .ok v' W) ∧ OffRow w base e size v' n (xs.drop size) ∧ v'.ownBlock = v.ownBlock := by
  subst hsize
  rcases h.2 with ⟨_, h0⟩ | ⟨g, o, cap, cur, rfl, hb, hg, hnc, hcm, hcs, htake⟩
  · omega
  · by_cases hc : cap = 1
    · subst hc
      have hn : n = 0 := by omega
      subst hn
      refine ⟨.slice (some ⟨g, o * i.size, none⟩) 0 0, fun W => ?_, ⟨by simp [h.1], .inr ⟨g, o, 0, cur, rfl, hb, hg, Nat.le_refl _, by omega, ?_, ?_⟩⟩, rfl⟩
      · simp [Instr.slice, run_underlying ht, sizeOf, typeInfo, hi, Instr.sliceBounds, Instr.sliceBound, asIntOf]
      · have := Nat.mul_le_mul_right i.size (show o + 0 ≤ o + 1 by omega)
        omega
      · have := h.1
        simp
        omega
    · refine ⟨.slice (some ⟨g, (o + 1) * i.size, none⟩) n (cap - 1), fun W => ?_, ⟨?_, .inr ⟨g, o + 1, cap - 1, cur, rfl, hb, hg, by omega, by omega, ?_, ?_⟩⟩, rfl⟩
      · have h1 : (1 : Int) ≤ (n + 1 : Nat) := by omega
        simp [Instr.slice, run_underlying ht, sizeOf, typeInfo, hi, Instr.sliceBounds, Instr.sliceBound, asIntOf, Addr.add_lit, Nat.add_mul]
        rw [if_pos (by omega), if_neg hc]
      · rw [List.length_drop, h.1, Nat.add_mul]
        omega
      · rw [show o + 1 + (cap - 1) = o + cap by omega]
        exact hcs
      · rw [← htake, List.drop_take, List.drop_drop, show (n + 1) * i.size - i.size = n * i.size by rw [Nat.add_mul]; omega, show (o + 1) * i.size = o * i.size + i.size by rw [Nat.add_mul]; omega]
/-- The first element of a row. -/
theorem OffRow.head1 {x : Value} (h : OffRow w base e 1 v (n + 1) (x :: xs)) : ∃ ad c, v = .slice (some ad) (n + 1) c ∧ w.cell? ad = some x ∧ base ≤ ad.block ∧ n + 1 ≤ c ∧ c ≤ maxLen := by
  rcases h.2 with ⟨_, h0⟩ | ⟨g, o, cap, cur, rfl, hb, hg, hnc, hcm, hcs, htake⟩
  · omega
  · refine ⟨_, cap, rfl, ?_, hb, hnc, hcm⟩
    rw [blk_cell hg]
    have h0 : ((cur.toList.drop (o * 1)).take ((n + 1) * 1))[0]? = some x := by rw [htake]; rfl
    rw [List.getElem?_take, if_pos (by omega), List.getElem?_drop] at h0
    simpa using h0
end
end Go.Proofs.Ytmhdckpmkgkglaa
