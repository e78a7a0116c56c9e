/- Fault.Of: what becomes of bytes. -/
import Derived.Test.YtcdanimdkkhamaaWq
import Derived.Deep.DeepCutAuto
import Derived.Laws.BitsAllLaws
import Derived.IntWalk
set_option linter.unusedVariables false
set_option linter.unusedSimpArgs false
namespace Go.Proofs.Ytcdanimdkkhamaa
open Go.RowKit

/-- A slice reads as bytes, however many. -/
def ReadsF (w : World) (v : Value) (l : List UInt8) : Prop :=
  ∃ A c, v = .slice A l.length c ∧ l.length ≤ c ∧ c ≤ 9223372036854775807 ∧ (A = none → l = [] ∧ c = 0) ∧ ∀ ad, A = some ad → ∀ j u, (bytesV l)[j]? = some u → w.cell? (ad.add j) = some u
theorem ReadsF.below {w w1 : World} {v : Value} {l : List UInt8} (h : ReadsF w v l) (hb : Below w.heap.size w w1) : ReadsF w1 v l := by
  obtain ⟨A, c, h1, h2, h3, h4, hc⟩ := h
  exact ⟨A, c, h1, h2, h3, h4, fun ad he j u hu => (hb.cell (World.block_lt_of_cell? w _ (hc ad he j u hu))).trans (hc ad he j u hu)⟩
theorem ReadsF.take {w : World} {A : Option Addr} {c n : Nat} {l : List UInt8} (h : ReadsF w (.slice A n c) l) (m : Nat) (hm : m ≤ 140737488355328) : ReadsB w (.slice A (min m l.length) c) (l.take m) := by
  obtain ⟨A', c', h1, h2, h3, h4, hc⟩ := h
  cases h1
  refine ⟨A, c, by simp, by simp; omega, by simp; omega, fun e => ⟨by rw [(h4 e).1]; simp, (h4 e).2⟩, fun ad he j u hu => hc ad he j u ?_⟩
  unfold bytesV at hu ⊢
  rw [List.map_take, List.getElem?_take] at hu
  split at hu
  · exact hu
  · cases hu
theorem ReadsF.conv {w : World} {v : Value} {l : List UInt8} (h : ReadsF w v l) : (convert 28 9 v).run Try.prog w = .ok (.string ⟨l.toArray⟩) w := by
  obtain ⟨A, c, rfl, h2, h3, h4, hc⟩ := h
  cases A with
  | none =>
    obtain ⟨rfl, rfl⟩ := h4 rfl
    exact run_convert_bytes_nil w 28 5 Try.underlying28 Try.underlying5 0 0 9 Try.underlying9
  | some ad =>
    refine run_convert_bytes_back w 28 9 5 ad c l Try.underlying28 Try.underlying5 Try.underlying9 fun j hj => hc ad rfl j _ ?_
    simp [bytesV, List.getElem?_eq_getElem hj]
theorem ReadsF.of_row {w : World} {a : Option Addr} {len cap : Nat} {zs : List Int} (h : IsRow8 w a len cap zs) : ReadsF w (.slice a len cap) (toB (zs.take len)) := by
  rcases h with ⟨rfl, rfl, rfl, rfl⟩ | ⟨x, rfl, hlc, hm, hz, hc, hw⟩
  · exact ⟨none, 0, rfl, by simp [toB], by omega, fun _ => ⟨rfl, rfl⟩, fun ad h => by cases h⟩
  · have hlen : (toB (zs.take len)).length = len := by simp [toB]; omega
    refine ⟨some x, cap, by rw [hlen], by omega, by unfold maxLen at hm; omega, (fun e => by cases e), fun ad he j u hu => ?_⟩
    cases he
    rw [toB_get (fun n hn => hw n (List.mem_of_mem_take hn))] at hu
    have hj : j < len := by
      have := (List.getElem?_eq_some_iff.1 hu).1
      simp at this; omega
    rw [hc j (by omega)]
    simp [List.getElem?_take, hj, show j < zs.length by omega] at hu
    rw [← hu]
    simp [List.getD, show j < zs.length by omega]
theorem ReadsB.full {w : World} {v : Value} {l : List UInt8} (h : ReadsB w v l) (hc : ∀ A n c, v = .slice A n c → c ≤ 9223372036854775807) : ReadsF w v l := by
  obtain ⟨A, c, rfl, h1, h2, h3, h4⟩ := h
  exact ⟨A, c, rfl, h1, hc _ _ _ rfl, h3, h4⟩

theorem ReadsB.cut {w : World} {A : Option Addr} {c n m : Nat} {l : List UInt8} (h : ReadsB w (.slice A n c) l) (hm : m ≤ l.length) : ReadsB w (.slice A m c) (l.take m) := by
  obtain ⟨A', c', h1, h2, h3, h4, hc⟩ := h
  cases h1
  have hl : (l.take m).length = m := by simp; omega
  refine ⟨A, c, by rw [hl], by omega, by omega, fun e => ⟨by rw [(h4 e).1]; simp, (h4 e).2⟩, fun ad he j u hu => hc ad he j u ?_⟩
  unfold bytesV at hu ⊢
  rw [List.map_take, List.getElem?_take] at hu
  split at hu
  · exact hu
  · cases hu
/-- What the edit's one statement reads. -/
structure EditS (w : World) (bx g2 g3 j : Nat) (k n x : Int) (fv u : Value) (y : Int) : Prop where
  box : w.heap[bx]? = some (.cells #[.int .i64 k, .int .i64 n, .int .u8 x, fv] 30 (0, 0))
  row : ∃ cs, w.heap[g2]? = some (.cells cs 28 (0, 0)) ∧ cs[0]? = some u
  byt : ∃ cs, w.heap[g3]? = some (.cells cs 5 (0, 0)) ∧ cs[j]? = some (.int .u8 y)
theorem EditS.below {w w1 : World} {bx g2 g3 j : Nat} {k n x : Int} {fv u : Value} {y : Int} (h : EditS w bx g2 g3 j k n x fv u y) (hb : Below w.heap.size w w1) : EditS w1 bx g2 g3 j k n x fv u y := by
  obtain ⟨h1, ⟨cs, h2, h3⟩, ⟨ds, h4, h5⟩⟩ := h
  exact ⟨blk_below' h1 hb, ⟨cs, blk_below' h2 hb, h3⟩, ⟨ds, blk_below' h4 hb, h5⟩⟩
theorem EditS.cells {w : World} {bx g2 g3 j : Nat} {k n x : Int} {fv u : Value} {y : Int} (h : EditS w bx g2 g3 j k n x fv u y) :
    w.cell? ⟨bx, 0, none⟩ = some (.int .i64 k) ∧ w.cell? ⟨bx, 1, none⟩ = some (.int .i64 n) ∧ w.cell? ⟨bx, 2, none⟩ = some (.int .u8 x) ∧ w.cell? ⟨bx, 3, none⟩ = some fv ∧ w.cell? ⟨g2, 0, none⟩ = some u ∧ w.cell? ⟨g3, j, none⟩ = some (.int .u8 y) ∧ w.frozen? ⟨g3, j, none⟩ = false := by
  obtain ⟨h1, ⟨cs, h2, h3⟩, ⟨ds, h4, h5⟩⟩ := h
  exact ⟨blk_cell h1 0, blk_cell h1 1, blk_cell h1 2, blk_cell h1 3, (blk_cell h2 0).trans h3, (blk_cell h4 j).trans h5, blk_frozen h4 j⟩
theorem drew_below (w : World) : Below w.heap.size w w.drew := (Below.refl _ _).drew

/-- A fault that is handed in by value. -/
def FaultV (w : World) (v : Value) (f : FT) : Prop :=
  ∃ A c, v = .agg #[.int .i64 f.kind, .int .i64 f.n, .int .u8 f.x, .slice A f.b.length c] ∧ ReadsF w (.slice A f.b.length c) f.b ∧ f.n ≤ 9223372036854775807 ∧ 0 ≤ f.x ∧ f.x ≤ 255
theorem FaultV.below {w w1 : World} {v : Value} {f : FT} (h : FaultV w v f) (hb : Below w.heap.size w w1) : FaultV w1 v f := by
  obtain ⟨A, c, h1, h2, h3⟩ := h
  exact ⟨A, c, h1, h2.below hb, h3⟩

theorem RowsAt.one {w : World} {B : Nat} {v : Value} {b : List UInt8} (h : RowsAt w B v [b]) : ∃ g c u, v = .slice (some ⟨g, 0, none⟩) 1 c ∧ w.ownsRow B 28 1 v 1 [u] ∧ w.ownsRow B 5 1 u b.length (bytesV b) := by
  obtain ⟨vs, h1, ho, hr⟩ := h
  match vs, h1 with
  | [u], _ =>
    rcases ho.2 with ⟨_, h0⟩ | ⟨g, cap, cur, rfl, _⟩
    · simp at h0
    · exact ⟨g, cap, u, rfl, ho, hr 0 u b rfl rfl⟩
theorem RowsAt.mk1 {w : World} {B : Nat} {v u : Value} {b : List UInt8} (h : w.ownsRow B 28 1 v 1 [u]) (k : w.ownsRow B 5 1 u b.length (bytesV b)) : RowsAt w B v [b] :=
  ⟨[u], rfl, h, fun i u' b' hu hb => by
    rcases i with _ | i
    · cases hu; cases hb; exact k
    · simp at hu⟩
theorem own_some {w : World} {B t size n : Nat} {v : Value} {xs : List Value} (h : w.ownsRow B t size v n xs) (hn : 0 < n) : ∃ g c, v = .slice (some ⟨g, 0, none⟩) n c ∧ B ≤ g ∧ g < w.heap.size := by
  rcases h.2 with ⟨_, h0⟩ | ⟨g, cap, cur, rfl, hb, hg, _⟩
  · omega
  · exact ⟨g, cap, rfl, hb, blk_lt hg⟩
theorem bits_u8 (op : BinOp) (a b : Int) (h : op = .xor) : 0 ≤ bits op .u8 a b ∧ bits op .u8 a b ≤ 255 := by
  subst h
  show 0 ≤ IntKind.u8.wrap _ ∧ IntKind.u8.wrap _ ≤ 255
  rw [IntKind.wrap_u8']
  omega
theorem bytesV_set (b : List UInt8) (k : Nat) (y : Int) (h0 : 0 ≤ y) (h1 : y ≤ 255) : bytesV (b.set k (UInt8.ofNat y.toNat)) = (bytesV b).set k (.int .u8 y) := by
  unfold bytesV
  rw [List.map_set]
  congr 2
  simp only [UInt8.toNat_ofNat']
  omega
theorem bytesV_at (b : List UInt8) (k : Nat) (h : k < b.length) : (bytesV b)[k]? = some (.int .u8 ((b.getD k 0).toNat : Int)) := by
  simp [bytesV, List.getElem?_eq_getElem h, List.getD]
theorem bytesV_len (b : List UInt8) : (bytesV b).length = b.length := by simp [bytesV]
theorem cells_two {w : World} {t : Nat} {u0 u1 : Value} {fr : Nat × Nat} (b : Nat) (h : w.heap[b]? = some (.cells #[u0, u1] t fr)) : ∀ (j : Nat) (u : Value), [u0, u1][j]? = some u → w.cell? ((⟨b, 0, none⟩ : Addr).add j) = some u := by
  intro j u hu
  rcases j with _ | _ | j
  · simp at hu; subst hu; exact blk_cell h 0
  · simp at hu; subst hu
    have : (⟨b, 0, none⟩ : Addr).add 1 = ⟨b, 1, none⟩ := rfl
    rw [this]; exact blk_cell h 1
  · simp at hu

def OfEnd (w : World) (ls : List (List UInt8)) (e : Ending) (w' : World) : Prop := ∃ v, e = .returned v ∧ RowsAt w' w.heap.size v ls ∧ Below w.heap.size w w'

theorem of_rows1 {w w1 : World} (h : Below w.heap.size w w1) (v : Value) (b : List UInt8) (hr : ReadsB w v b) (a : Nat) (ha : a = w1.heap.size) :
    Calls Try.prog 22 #[.slice (some ⟨a, 0, none⟩) 1 1] (w1.alloc (.cells #[v] 28)) fun e w' => OfEnd w [b] e w' := by
  subst ha
  refine (rows_any _ ⟨w1.heap.size, 0, none⟩ 1 [v] [b] rfl (Nat.le_refl _) (by simp) (news_one (blk_new _ _)) ?_).mono ?_
  · intro j u b' hu hb
    rcases j with _ | j
    · cases hu; cases hb; exact hr.below (h.alloc h.size _)
    · simp at hu
  · rintro e w2 ⟨v2, rfl, h2, hb2⟩
    have hs := h.size
    exact ⟨v2, rfl, h2.lower (by simp; omega), (h.alloc hs _).trans (hb2.mono (by simp; omega))⟩
theorem of_rows2 {w w1 : World} (h : Below w.heap.size w w1) (v0 v1 : Value) (b0 b1 : List UInt8) (hr0 : ReadsB w v0 b0) (hr1 : ReadsB w v1 b1) (a : Nat) (ha : a = w1.heap.size) :
    Calls Try.prog 22 #[.slice (some ⟨a, 0, none⟩) 2 2] (w1.alloc (.cells #[v0, v1] 28)) fun e w' => OfEnd w [b0, b1] e w' := by
  subst ha
  refine (rows_any _ ⟨w1.heap.size, 0, none⟩ 2 [v0, v1] [b0, b1] rfl (Nat.le_refl _) (by simp) (cells_two _ (blk_new _ _)) ?_).mono ?_
  · intro j u b' hu hb
    rcases j with _ | _ | j
    · cases hu; cases hb; exact hr0.below (h.alloc h.size _)
    · cases hu; cases hb; exact hr1.below (h.alloc h.size _)
    · simp at hu
  · rintro e w2 ⟨v2, rfl, h2, hb2⟩
    have hs := h.size
    exact ⟨v2, rfl, h2.lower (by simp; omega), (h.alloc hs _).trans (hb2.mono (by simp; omega))⟩

theorem edit_end {w w2 w4 : World} {g2 g3 c2 c3 j Bx : Nat} {b : List UInt8} {x y : Int} (hb2 : Below w.heap.size w w2) (hsz : w.heap.size ≤ Bx) (ho2 : w2.ownsRow Bx 28 1 (.slice (some ⟨g2, 0, none⟩) 1 c2) 1 [.slice (some ⟨g3, 0, none⟩) b.length c3])
    (hu2 : w2.ownsRow Bx 5 1 (.slice (some ⟨g3, 0, none⟩) b.length c3) b.length (bytesV b)) (hy : y = ((b.getD j 0).toNat : Int)) (hb4 : Below w2.heap.size w2 w4) (hj : j < b.length) :
    OfEnd w [editF b j x] (.returned (.slice (some ⟨g2, 0, none⟩) 1 c2)) (w4.setCell ⟨g3, j, none⟩ (.int .u8 (bits .xor .u8 y x))) := by
  have hg3 : w.heap.size ≤ g3 := Nat.le_trans hsz (own_lt hu2 g3 rfl).1
  obtain ⟨s1, s2⟩ := (own_below hu2 hb4).stored j (.int .u8 (bits .xor .u8 y x))
  obtain ⟨y0, y1⟩ := bits_u8 .xor y x rfl
  refine ⟨_, rfl, RowsAt.mk1 (u := .slice (some ⟨g3, 0, none⟩) b.length c3) ?_ ?_, ?_⟩
  · refine own_lower (own_keep (own_below ho2 hb4) fun k hk => ?_) hsz
    obtain ⟨cs, fr, hh⟩ := own_ty hu2 g3 rfl
    refine Below.heap_setCell _ _ _ _ (own_ne (own_below ho2 hb4) (blk_below' hh hb4) (by decide) k hk)
  · have hlen : (editF b j x).length = b.length := by simp [editF]
    have : bytesV (editF b j x) = (bytesV b).set j (.int .u8 (bits .xor .u8 y x)) := by
      unfold editF
      rw [← hy]
      exact bytesV_set b j _ y0 y1
    rw [hlen, this]
    exact own_lower s1 hsz
  · exact (hb2.trans (hb4.mono hb2.size)).setCell hg3 _
set_option maxHeartbeats 4000000 in
theorem of_any (w : World) (fv v : Value) (f : FT) (b : List UInt8) (hf : FaultV w fv f) (hr : ReadsB w v b) (hl : b.length ≤ 200) (hvc : ∀ A n c, v = .slice A n c → c ≤ 9223372036854775807) :
    Calls Try.prog 14 #[fv, v] w fun e w' => OfEnd w (f.of b) e w' := by
  obtain ⟨k, n, x, fb⟩ := f
  obtain ⟨A, c, rfl, hrf, hn, hx0, hx1⟩ := hf
  obtain ⟨A', c', rfl, hc', hl', hnil, hcell⟩ := id hr
  have hcc := hvc _ _ _ rfl
  have HR := Lib.hid hr
  have HRF := Lib.hid hrf
  clear hr hrf hvc hnil hcell
  simp only [] at hn hx0 hx1
  have hB1 : Below w.heap.size w (w.alloc (.cells #[.int .i64 k, .int .i64 n, .int .u8 x, .slice A fb.length c] 30)) := (Below.refl _ _).alloc (Nat.le_refl _) _
  have HB1 := Lib.hid hB1
  clear hB1
  by_cases k1 : k = 1
  · subst k1
    have e : FT.of ⟨1, n, x, fb⟩ b = [] := rfl
    rw [e]
    clear e
    go_enter Try.func14, Try.ntmps14
    go_wp2_with fail
    go_ret
    exact ⟨_, rfl, RowsAt.nil _ _, HB1.out⟩
  by_cases k2 : k = 2
  · subst k2
    have e : FT.of ⟨2, n, x, fb⟩ b = [b, b] := rfl
    rw [e]
    clear e
    go_enter Try.func14, Try.ntmps14
    go_wp2_with fail
    refine (of_rows2 HB1.out _ _ _ _ HR.out HR.out _ (by simp)).mono ?_
    rintro e w2 ⟨v2, rfl, h2⟩
    have H2 := Lib.hid h2
    clear h2
    go_wp2_with fail
    go_ret
    exact ⟨_, rfl, H2.out⟩
  by_cases k4 : k = 4
  · subst k4
    by_cases hb0 : b.length = 0
    · have e : FT.of ⟨4, n, x, fb⟩ b = [b] := by simp [FT.of, hb0]
      rw [e]
      clear e
      have d0 : decide (0 < b.length) = false := by simp; exact List.eq_nil_of_length_eq_zero hb0
      have HB0 := Lib.hid hb0
      clear hb0
      go_enter Try.func14, Try.ntmps14
      go_wp2_with fail
      refine (of_rows1 HB1.out _ _ HR.out _ (by simp)).mono ?_
      rintro e w2 ⟨v2, rfl, h2⟩
      have H2 := Lib.hid h2
      clear h2
      go_wp2_with fail
      go_ret
      exact ⟨_, rfl, H2.out⟩
    · have e : FT.of ⟨4, n, x, fb⟩ b = [editF b (n.toNat % b.length) x] := by
        have h3 : b ≠ [] := by rintro rfl; simp at hb0
        simp [FT.of, FT.pos, h3]
      rw [e]
      clear e
      have hbl : 0 < b.length := by omega
      have d0 : decide (0 < b.length) = true := by simpa using hbl
      have hbne : b ≠ [] := by rintro rfl; simp at hbl
      obtain ⟨p, hp, hp1⟩ : ∃ p : Nat, max n 0 = (p : Int) ∧ p = n.toNat := ⟨n.toNat, by omega, rfl⟩
      have hple : p ≤ 9223372036854775807 := by omega
      obtain ⟨j, hj, hj1⟩ : ∃ j : Nat, j = p % b.length ∧ j < b.length := ⟨_, rfl, Nat.mod_lt _ hbl⟩
      rw [← hp1, ← hj]
      have hrem : (p : Int).tmod (b.length : Int) = (j : Int) := by rw [hj]; exact Int.ofNat_tmod p b.length
      have HP := Lib.hid hp
      have HBL := Lib.hid hb0
      clear hp hp1 hj hb0
      go_enter Try.func14, Try.ntmps14
      go_wp2_with fail
      refine (of_rows1 (Below.refl _ _) _ _ (HR.out.below HB1.out) _ (by simp)).mono ?_
      rintro e w2 ⟨v2, rfl, h2, hb2⟩
      obtain ⟨g2, c2, u2, rfl, ho2, hu2⟩ := h2.one
      obtain ⟨g3, c3, rfl, hg3, hl3⟩ := own_some hu2 hbl
      obtain ⟨y, hy⟩ : ∃ y : Int, y = ((b.getD j 0).toNat : Int) := ⟨_, rfl⟩
      have hS : EditS w2 w.heap.size g2 g3 j 4 n x (.slice A fb.length c) (.slice (some ⟨g3, 0, none⟩) b.length c3) y := by
        refine ⟨blk_below' (blk_new _ _) hb2, ?_, ?_⟩
        · rcases ho2.2 with ⟨h0, _⟩ | ⟨g', cap, cur, he, _, hh, _, _, _, ht⟩
          · cases h0
          · cases he
            refine ⟨cur, hh, ?_⟩
            have : (cur.toList.take (1 * 1))[0]? = some (.slice (some ⟨g3, 0, none⟩) b.length c3) := by rw [ht]; rfl
            simpa using this
        · rcases hu2.2 with ⟨h0, _⟩ | ⟨g', cap, cur, he, _, hh, _, _, _, ht⟩
          · cases h0
          · cases he
            refine ⟨cur, hh, ?_⟩
            have h5 := bytesV_at b j hj1
            rw [← ht, List.getElem?_take, if_pos (by omega), ← hy] at h5
            simpa using h5
      have HS := Lib.hid hS
      have HO2 := Lib.hid ho2
      have HU2 := Lib.hid hu2
      have HB2 : Hid (Below w.heap.size w w2) := HB1.out.trans (hb2.mono (by simp))
      have HY := Lib.hid hy
      have hg2 : w.heap.size + 1 ≤ g2 := by have := (own_lt ho2 g2 rfl).1; simpa using this
      have hg3' : w.heap.size + 1 ≤ g3 := by simpa using hg3
      clear hS ho2 hu2 hb2 hy h2 hg3
      obtain ⟨s0, s1, s2, s3, s4, s5, s6⟩ := HS.out.cells
      go_wp2_with fail
      go_region_law
        ((first
          | (go_simp; go_at_call 23; refine (n_any _ _ _ _ _ p HP.out).mono ?_; rintro e w4 ⟨rfl, hb4⟩; have HB4 : Hid (Below w2.heap.size w2 w4) := (by first | exact hb4 | exact (drew_below w2).trans hb4); have HS4 := Lib.hid (HS.out.below HB4.out); clear hb4; obtain ⟨r0, r1, r2, r3, r4, r5, r6⟩ := HS4.out.cells)))
      all_goals
        go_wp2_with fail
        go_ret
        exact edit_end HB2.out (by simp) HO2.out HU2.out HY.out HB4.out hj1
  by_cases k5 : k = 5
  · subst k5
    have e : FT.of ⟨5, n, x, fb⟩ b = [b.take (min n.toNat b.length)] := by
      have : b.take n.toNat = b.take (min n.toNat b.length) := by rw [List.take_eq_take_min]
      simp [FT.of, FT.pos, this]
    rw [e]
    clear e
    obtain ⟨p, hp, hp1⟩ : ∃ p : Nat, max n 0 = (p : Int) ∧ p = n.toNat := ⟨n.toNat, by omega, rfl⟩
    have hple : p ≤ 9223372036854775807 := by omega
    by_cases hlt : b.length < p
    · have hm3 : min n.toNat b.length = b.length := by omega
      rw [hm3]
      have HP := Lib.hid hp
      have hrm : ReadsB w (.slice A' b.length c') (b.take b.length) := HR.out.cut (Nat.le_refl _)
      have HRM := Lib.hid hrm
      clear hrm hm3 hp hp1
      go_enter Try.func14, Try.ntmps14
      go_wp2_with fail
      refine (n_any _ _ _ _ _ p HP.out).mono ?_
      rintro e w1 ⟨rfl, hb1⟩
      have HB2 : Hid (Below w.heap.size w w1) := HB1.out.trans (hb1.mono HB1.out.size)
      clear hb1
      go_wp2_with fail
      refine (of_rows1 HB2.out _ _ HRM.out _ (by first | rfl | simp)).mono ?_
      rintro e w2 ⟨v2, rfl, h2⟩
      have H2 := Lib.hid h2
      clear h2
      go_wp2_with fail
      go_ret
      exact ⟨_, rfl, H2.out⟩
    · have hm3 : min n.toNat b.length = p := by omega
      rw [hm3]
      have HP := Lib.hid hp
      have hpl : p ≤ b.length := by omega
      have hrm : ReadsB w (.slice A' p c') (b.take p) := HR.out.cut hpl
      have HRM := Lib.hid hrm
      clear hrm hm3 hp hp1
      go_enter Try.func14, Try.ntmps14
      go_wp2_with fail
      refine (n_any _ _ _ _ _ p HP.out).mono ?_
      rintro e w1 ⟨rfl, hb1⟩
      have HB2 : Hid (Below w.heap.size w w1) := HB1.out.trans (hb1.mono HB1.out.size)
      clear hb1
      go_wp2_with fail
      refine (of_rows1 HB2.out _ _ HRM.out _ (by first | rfl | simp)).mono ?_
      rintro e w2 ⟨v2, rfl, h2⟩
      have H2 := Lib.hid h2
      clear h2
      go_wp2_with fail
      go_ret
      exact ⟨_, rfl, H2.out⟩
  by_cases k6 : k = 6
  · subst k6
    have e : FT.of ⟨6, n, x, fb⟩ b = [fb.take 64, b] := by simp [FT.of]
    rw [e]
    clear e
    obtain ⟨m, hm1, hm2, hm3, hmin⟩ : ∃ m : Nat, m ≤ fb.length ∧ m ≤ 64 ∧ m = min 64 fb.length ∧ (if (64 : Int) < (fb.length : Int) then (64 : Int) else (fb.length : Int)) = (m : Int) := by
      by_cases h : 64 < fb.length
      · exact ⟨64, by omega, by omega, by omega, by rw [if_pos (by omega)]; rfl⟩
      · exact ⟨fb.length, by omega, by omega, by omega, by rw [if_neg (by omega)]⟩
    have hrm : ReadsB w (.slice A m c) (fb.take 64) := by rw [hm3]; exact HRF.out.take 64 (by omega)
    have HRM := Lib.hid hrm
    clear hrm hm3
    obtain ⟨c1, c2⟩ : fb.length ≤ c ∧ c ≤ 9223372036854775807 := by
      obtain ⟨_, _, h1, h2, h3, _⟩ := HRF.out
      cases h1
      exact ⟨h2, h3⟩
    go_enter Try.func14, Try.ntmps14
    go_wp2_with fail
    refine (of_rows2 HB1.out _ _ _ _ HRM.out HR.out _ (by simp)).mono ?_
    rintro e w2 ⟨v2, rfl, h2⟩
    have H2 := Lib.hid h2
    clear h2
    go_wp2_with fail
    go_ret
    exact ⟨_, rfl, H2.out⟩
  · have e : FT.of ⟨k, n, x, fb⟩ b = [b] := by simp [FT.of, k1, k2, k4, k5, k6]
    rw [e]
    clear e
    have e1 : (k == 1) = false := by simpa using k1
    have e2 : (k == 2) = false := by simpa using k2
    have e4 : (k == 4) = false := by simpa using k4
    have e5 : (k == 5) = false := by simpa using k5
    have e6 : (k == 6) = false := by simpa using k6
    go_enter Try.func14, Try.ntmps14
    go_wp2_with fail
    refine (of_rows1 HB1.out _ _ HR.out _ (by simp)).mono ?_
    rintro e w2 ⟨v2, rfl, h2⟩
    have H2 := Lib.hid h2
    clear h2
    go_wp2_with fail
    go_ret
    exact ⟨_, rfl, H2.out⟩
end Go.Proofs.Ytcdanimdkkhamaa
