/- What WireOwn's walk holds: rows that are written over, and a wire that isn't. -/
import Derived.Test.YtcdanimdkkhamaaXc
set_option linter.unusedVariables false
set_option linter.unusedSimpArgs false
namespace Go.Proofs.Ytcdanimdkkhamaa
open Go.RowKit

section
variable {P : Program} {w : World}
theorem wpList_append_bytes {ops : Array Oper} {rest : List Oper} {o : Oper} {a : Act} {Q : Exit → Act → World → Prop} (hgd : o.guard = none) (s x : Operand)
    (ho : o.op = .call { callee := .builtin .append, args := #[s, x], argTypes := #[28, 28] })
    (base : Nat) (v : Value) (n : Nat) (xs : List Value) (hs : a.eval s = v) (hown : w.ownsRow base 5 1 v n xs) (vs : Value) (l : List UInt8) (hx : a.eval x = vs) (hr : ReadsB w vs l)
    (h63 : n + l.length ≤ 100000) (hbase : base ≤ w.heap.size)
    (h : ∀ v' w', w'.ownsRow base 5 1 v' (n + l.length) (xs ++ bytesV l) → w.grownBy w' v.ownBlock → wpList Try.prog ops Q rest (a.put o.dst v') w') : wpList Try.prog ops Q (o :: rest) a w := by
  obtain ⟨i0, hi, hz0, hz1, hz2⟩ := info_parts Try.info5
  obtain ⟨A, c, rfl, hlc, hl, hnil, hcell⟩ := hr
  refine wpList_plain hgd fun K hK => ?_
  have hrun : ∃ v' w', (Builtin.append_ #[28, 28] o.type #[v, .slice A l.length c]).run Try.prog w = .ok v' w' ∧ w'.ownsRow base 5 1 v' (n + l.length) (xs ++ bytesV l) ∧ w.grownBy w' v.ownBlock := by
    cases A with
    | none =>
      obtain ⟨rfl, rfl⟩ := hnil rfl
      refine ⟨v, w, run_append_owned_none (P := Try.prog) (w := w) base 28 o.type 5 i0 1 Try.underlying28 hi v n xs hown, by simpa [bytesV] using hown, grown_refl _ _⟩
    | some ad =>
      obtain ⟨v', w', r1, r2, r3, _⟩ := run_append_own (P := Try.prog) w base 28 o.type 5 i0 (.int .u8 0) 1 1 Try.underlying28 hi hz0 hz1 hz2 rfl (by decide) v n xs hown ad l.length c (bytesV l) (by simp [bytesV]) (fun j u hu => hcell ad rfl j u hu) (bytesV_one l) (by unfold maxLen; omega) (by omega) hbase
      exact ⟨v', w', r1, r2, r3⟩
  obtain ⟨v', w', hr, h2, h3⟩ := hrun
  unfold Oper.wp execOp
  simp only [ho, resolve, invoke, builtin, Sem.run_bind, Sem.run_pure, Result.andThen_ok, List.map_toArray, List.map_cons, List.map_nil, hs, hx, hr]
  exact hK _ _ (h v' w' h2 h3)
theorem wpList_append_rows {ops : Array Oper} {rest : List Oper} {o : Oper} {a : Act} {Q : Exit → Act → World → Prop} (hgd : o.guard = none) (s x : Operand)
    (ho : o.op = .call { callee := .builtin .append, args := #[s, x], argTypes := #[35, 35] })
    (base : Nat) (v : Value) (n : Nat) (xs : List Value) (hs : a.eval s = v) (hown : w.ownsRow base 28 1 v n xs) (B : Nat) (vs : Value) (m : Nat) (ys : List Value) (hx : a.eval x = vs) (hsrc : w.ownsRow B 28 1 vs m ys)
    (h1 : ∀ u ∈ ys, u.oneCell' = true) (h63 : n + m ≤ 100000) (hbase : base ≤ w.heap.size)
    (h : ∀ v' w', w'.ownsRow base 28 1 v' (n + m) (xs ++ ys) → w.grownBy w' v.ownBlock → wpList Try.prog ops Q rest (a.put o.dst v') w') : wpList Try.prog ops Q (o :: rest) a w := by
  obtain ⟨i0, hi, hz0, hz1, hz2⟩ := info_parts Try.info28
  refine wpList_plain hgd fun K hK => ?_
  have hrun : ∃ v' w', (Builtin.append_ #[35, 35] o.type #[v, vs]).run Try.prog w = .ok v' w' ∧ w'.ownsRow base 28 1 v' (n + m) (xs ++ ys) ∧ w.grownBy w' v.ownBlock := by
    rcases hsrc.2 with ⟨rfl, rfl⟩ | ⟨g, cap, cur, rfl, hb, hg, hnc, hcm, hcs, htake⟩
    · have hy : ys = [] := List.eq_nil_of_length_eq_zero (by simpa using hsrc.1)
      subst hy
      exact ⟨v, w, run_append_owned_none (P := Try.prog) (w := w) base 35 o.type 28 i0 1 Try.underlying35 hi v n xs hown, by simpa using hown, grown_refl _ _⟩
    · obtain ⟨v', w', r1, r2, r3, _⟩ := run_append_own (P := Try.prog) w base 35 o.type 28 i0 (.slice none 0 0) 1 24 Try.underlying35 hi hz0 hz1 hz2 rfl (by decide) v n xs hown ⟨g, 0, none⟩ m cap ys hsrc.1 (fun j u hu => hsrc.cells (g := g) rfl j u hu) h1 (by unfold maxLen; omega) (by omega) hbase
      exact ⟨v', w', r1, r2, r3⟩
  obtain ⟨v', w', hr, h2, h3⟩ := hrun
  unfold Oper.wp execOp
  simp only [ho, resolve, invoke, builtin, Sem.run_bind, Sem.run_pure, Result.andThen_ok, List.map_toArray, List.map_cons, List.map_nil, hs, hx, hr]
  exact hK _ _ (h v' w' h2 h3)
end

/-- A row of bytes of one's own, whatever they are. -/
def Loose (w : World) (B : Nat) (u : Value) (n : Nat) : Prop := ∃ l : List UInt8, l.length = n ∧ w.ownsRow B 5 1 u n (bytesV l)
theorem Loose.set {w : World} {B n : Nat} {u : Value} (h : Loose w B u n) (k i : Nat) (y : Int) (h0 : 0 ≤ y) (h1 : y ≤ 255) : Loose (w.setCell ⟨k, i, none⟩ (.int .u8 y)) B u n := by
  obtain ⟨l, hl, ho⟩ := h
  by_cases hk : u.ownBlock = some k
  · rcases ho.2 with ⟨rfl, _⟩ | ⟨g, cap, cur, rfl, _⟩
    · simp [Value.ownBlock] at hk
    · simp [Value.ownBlock] at hk
      subst hk
      refine ⟨l.set i (UInt8.ofNat y.toNat), by simpa using hl, ?_⟩
      rw [bytesV_set l i y h0 h1]
      exact (ho.stored i (.int .u8 y)).1
  · exact ⟨l, hl, own_keep ho fun k' hk' => Below.heap_setCell _ _ _ _ (fun e => hk (by rw [hk', e]))⟩
theorem Loose.below {w w1 : World} {B n : Nat} {u : Value} (h : Loose w B u n) (hb : Below w.heap.size w w1) : Loose w1 B u n := by
  obtain ⟨l, hl, ho⟩ := h
  exact ⟨l, hl, own_below ho hb⟩
theorem Loose.kept {w w1 : World} {B B' n : Nat} {ts : List TypeId} {u : Value} (h : Loose w B u n) (hk : Kept B' ts w w1) (ht : 5 ∉ ts) : Loose w1 B u n := by
  obtain ⟨l, hl, ho⟩ := h
  exact ⟨l, hl, own_kept ho hk ht⟩
/-- A cell that may be written over. -/
theorem Loose.at {w : World} {B n : Nat} {u : Value} (h : Loose w B u n) {j : Nat} (hj : j < n) :
    ∃ g c z, u = .slice (some ⟨g, 0, none⟩) n c ∧ n ≤ c ∧ c ≤ 9223372036854775807 ∧ B ≤ g ∧ g < w.heap.size ∧ w.cell? ⟨g, j, none⟩ = some z ∧ w.frozen? ⟨g, j, none⟩ = false ∧ ∃ cs, w.heap[g]? = some (.cells cs 5 (0, 0)) := by
  obtain ⟨l, hl, ho⟩ := h
  rcases ho.2 with ⟨_, h0⟩ | ⟨g, cap, cur, rfl, hb, hh, h1, h2, h3, h4⟩
  · omega
  · refine ⟨g, cap, cur[j]'(by omega), rfl, h1, by unfold maxLen at h2; omega, hb, blk_lt hh, ?_, blk_frozen hh j, cur, hh⟩
    rw [blk_cell hh j]
    exact Array.getElem?_eq_getElem _
/-- Rows that may be written over. -/
def LooseRows (w : World) (B : Nat) (v : Value) (ns : List Nat) : Prop :=
  ∃ vs : List Value, vs.length = ns.length ∧ w.ownsRow B 28 1 v ns.length vs ∧ ∀ (i : Nat) (u : Value) (n : Nat), vs[i]? = some u → ns[i]? = some n → Loose w B u n
theorem LooseRows.of {w : World} {B : Nat} {v : Value} {ls : List (List UInt8)} (h : RowsAt w B v ls) : LooseRows w B v (ls.map List.length) := by
  obtain ⟨vs, h1, ho, hr⟩ := h
  refine ⟨vs, by simpa using h1, by simpa using ho, fun i u n hu hn => ?_⟩
  rw [List.getElem?_map] at hn
  cases hl : ls[i]? with
  | none => rw [hl] at hn; simp at hn
  | some b =>
    rw [hl] at hn
    simp at hn
    subst hn
    exact ⟨b, rfl, hr i u b hu hl⟩
theorem LooseRows.set {w : World} {B : Nat} {v : Value} {ns : List Nat} (h : LooseRows w B v ns) (k i : Nat) (y : Int) (h0 : 0 ≤ y) (h1 : y ≤ 255) (hk : ∃ cs, w.heap[k]? = some (.cells cs 5 (0, 0))) : LooseRows (w.setCell ⟨k, i, none⟩ (.int .u8 y)) B v ns := by
  obtain ⟨vs, h2, ho, hr⟩ := h
  obtain ⟨cs, hk⟩ := hk
  exact ⟨vs, h2, own_keep ho fun k' hk' => Below.heap_setCell _ _ _ _ (own_ne ho hk (by decide) k' hk'), fun j u n hu hn => (hr j u n hu hn).set k i y h0 h1⟩
theorem LooseRows.slice {w : World} {B : Nat} {v : Value} {ns : List Nat} (h : LooseRows w B v ns) : ∃ A c, v = .slice A ns.length c := by
  obtain ⟨vs, h1, ho, hr⟩ := h
  exact own_slice ho
theorem LooseRows.at {w : World} {B : Nat} {v : Value} {ns : List Nat} (h : LooseRows w B v ns) {i : Nat} (hi : i < ns.length) :
    ∃ g c u, v = .slice (some ⟨g, 0, none⟩) ns.length c ∧ ns.length ≤ c ∧ c ≤ 9223372036854775807 ∧ w.cell? ⟨g, i, none⟩ = some u ∧ Loose w B u (ns.getD i 0) ∧ ∃ A c', u = .slice A (ns.getD i 0) c' := by
  obtain ⟨vs, h1, ho, hr⟩ := h
  obtain ⟨u, hu⟩ : ∃ u, vs[i]? = some u := ⟨_, List.getElem?_eq_getElem (by rw [h1]; exact hi)⟩
  have hn : ns[i]? = some (ns.getD i 0) := by rw [List.getD, List.getElem?_eq_getElem hi]; rfl
  have hl := hr i u _ hu hn
  rcases ho.2 with ⟨_, h0⟩ | ⟨g, cap, cur, rfl, hb, hh, h4, h2, h3, _⟩
  · omega
  · have h1 := ho.cells (g := g) rfl i u hu
    have h2' : (⟨g, 0, none⟩ : Addr).add i = ⟨g, i, none⟩ := by unfold Addr.add; split <;> simp_all
    rw [h2'] at h1
    obtain ⟨l, hll, hol⟩ := id hl
    exact ⟨g, cap, u, rfl, h4, by unfold maxLen at h2; omega, h1, hl, own_slice hol⟩

/-- What lies below a wire may be written. -/
theorem WireAt.low {w : World} {B g room : Nat} {l : List (List UInt8 × Nat)} (h : WireAt w B g room l) {k : Nat} (hk : k < B) (i : Nat) (u : Value) : WireAt (w.setCell ⟨k, i, none⟩ u) B g room l := by
  obtain ⟨v, us, hl, hg, ho, hr⟩ := h.ex
  have hge := h.ge
  exact ⟨h.ge, h.rm, h.hh, v, us, hl, far1 (by simp; omega) hg, ho.keep fun k' hk' => Below.heap_setCell _ _ _ _ (by have := (ho.lt k' hk').1; simp; omega), fun j u' p hu hp => own_keep (hr j u' p hu hp) fun k' hk' => Below.heap_setCell _ _ _ _ (by have := (own_lt (hr j u' p hu hp) k' hk').1; simp; omega)⟩
theorem ReadsS.low {w : World} {v : Value} {ls : List (List UInt8)} {B : Nat} (h : ReadsS w v ls) (hn : ∀ A n c, v = .slice (some A) n c → B ≤ A.block) {k : Nat} (hk : k < B) (i : Nat) (u : Value) : ReadsS (w.setCell ⟨k, i, none⟩ u) v ls := by
  obtain ⟨A, c, rfl, h2, h3, h4⟩ := h
  refine ⟨A, c, rfl, h2, h3, fun ad he j u' hu => ?_⟩
  subst he
  have h5 := h4 ad rfl j u' hu
  have hbk : (ad.add j).block = ad.block := by unfold Addr.add; split <;> rfl
  have := hn ad _ _ rfl
  exact (World.cell?_of_block (Below.heap_setCell w ⟨k, i, none⟩ u _ (by rw [hbk]; simp; omega))).trans h5
theorem ReadsS.kept {w w1 : World} {v : Value} {ls : List (List UInt8)} {B : Nat} {ts : List TypeId} (h : ReadsS w v ls) (hk : Kept B ts w w1) (hn : ∀ A n c, v = .slice (some A) n c → ∃ cs, w.heap[A.block]? = some (.cells cs 9 (0, 0))) (h9 : 9 ∉ ts) : ReadsS w1 v ls := by
  obtain ⟨A, c, rfl, h2, h3, h4⟩ := h
  refine ⟨A, c, rfl, h2, h3, fun ad he j u' hu => ?_⟩
  subst he
  have h5 := h4 ad rfl j u' hu
  obtain ⟨cs, hc⟩ := hn ad _ _ rfl
  have hbk : (ad.add j).block = ad.block := by unfold Addr.add; split <;> rfl
  exact (World.cell?_of_block (by rw [hbk]; exact (hk.blk hc h9).trans hc.symm)).trans h5
theorem due_held (ls : List (List UInt8)) (h : Nat) (hh : h ≤ 16) (hl : ls.length ≤ 2) : due (heldF ls h) ≤ 18 := by
  match ls, hl with
  | [], _ => simp [heldF, due]
  | [a], _ => simp [heldF, due]; omega
  | [a, b], _ => simp [heldF, due]; omega
end Go.Proofs.Ytcdanimdkkhamaa
