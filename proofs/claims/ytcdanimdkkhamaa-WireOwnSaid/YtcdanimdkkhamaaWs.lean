/- The law's texts and ref; the reference's Of. -/
import Derived.Test.YtcdanimdkkhamaaWr
set_option linter.unusedVariables false
set_option linter.unusedSimpArgs false
namespace Go.Proofs.Ytcdanimdkkhamaa
open Go.RowKit

/-- A slice reads as texts. -/
def ReadsS (w : World) (v : Value) (ls : List (List UInt8)) : Prop :=
  ∃ A c, v = .slice A ls.length c ∧ ls.length ≤ c ∧ (A = none → ls = []) ∧ ∀ ad, A = some ad → ∀ j u, (ls.map strV)[j]? = some u → w.cell? (ad.add j) = some u
theorem ReadsS.below {w w1 : World} {v : Value} {ls : List (List UInt8)} (h : ReadsS w v ls) (hb : Below w.heap.size w w1) : ReadsS w1 v ls := by
  obtain ⟨A, c, h1, h2, h4, hc⟩ := h
  exact ⟨A, c, h1, h2, h4, fun ad he j u hu => (hb.cell (World.block_lt_of_cell? w _ (hc ad he j u hu))).trans (hc ad he j u hu)⟩

set_option maxHeartbeats 2000000 in
theorem texts_eq (w : World) (B : Nat) (va vb : Value) (ls : List (List UInt8)) (ha : RowsAt w B va ls) (hb : ReadsS w vb ls) (hl : ls.length ≤ 1000000) (hs : ∀ b ∈ ls, b.length ≤ 140737488355328) :
    Calls Try.prog 13 #[va, vb] w fun e w' => e = .returned (.bool true) ∧ Below w.heap.size w w' := by
  obtain ⟨A, c, rfl⟩ := ha.slice
  obtain ⟨vs, hvl, ho, hr⟩ := ha
  obtain ⟨A', c', rfl, hc', hn', hcell⟩ := hb
  obtain ⟨vs', hvs⟩ : ∃ x, x = vs := ⟨_, rfl⟩
  have HO := Lib.hid ho
  have HR := Lib.hid hr
  have HN := Lib.hid hn'
  have HCL := Lib.hid hcell
  have HVL := Lib.hid hvl
  have HS := Lib.hid hs
  have hcap : ls.length ≤ c := by
    rcases ho.2 with ⟨h0, h1⟩ | ⟨_, _, _, h0, _, _, h1, _⟩
    · omega
    · cases h0; exact h1
  clear ho hr hn' hcell hvl hvs hs
  go_enter Try.func13, Try.ntmps13
  go_wp2_with fail
  go_loopw [5] (fun i wr => ∃ k : Nat, k ≤ ls.length ∧ i = .int .i64 k ∧ Below w.heap.size w wr) (fun i _ => ls.length - (intOf i).toNat)
  case atStart => exact ⟨0, Nat.zero_le _, rfl, Below.refl _ _⟩
  case round =>
    obtain ⟨k, hk, rfl, hbr⟩ := hrel
    have HBr := Lib.hid hbr
    clear hbr
    by_cases hlt : k < ls.length
    · obtain ⟨b, hb⟩ : ∃ b, ls[k]? = some b := ⟨_, List.getElem?_eq_getElem hlt⟩
      obtain ⟨u, hu⟩ : ∃ u, vs[k]? = some u := ⟨_, List.getElem?_eq_getElem (by rw [HVL.out]; exact hlt)⟩
      obtain ⟨ad, rfl⟩ : ∃ ad, A' = some ad := by
        cases A' with
        | none => have := HN.out rfl; subst this; simp at hlt
        | some ad => exact ⟨ad, rfl⟩
      obtain ⟨g, c2, he, hg, _⟩ := own_some HO.out (by omega)
      cases he
      have hrd : ReadsB wr u b := (own_reads (HR.out k u b hu hb) (HS.out b (List.mem_of_getElem? hb))).below HBr.out
      have hc1 : wr.cell? ⟨g, k, none⟩ = some u := by
        have h1 := HO.out.cells (g := g) rfl k u hu
        have h2 : (⟨g, 0, none⟩ : Addr).add k = ⟨g, k, none⟩ := by unfold Addr.add; split <;> simp_all
        rw [h2] at h1
        exact (HBr.out.cell (World.block_lt_of_cell? w _ h1)).trans h1
      have hc2 : wr.cell? (ad.add k) = some (strV b) := by
        have h1 := HCL.out ad rfl k (strV b) (by rw [List.getElem?_map, hb]; rfl)
        exact (HBr.out.cell (World.block_lt_of_cell? w _ h1)).trans h1
      obtain ⟨A2, c3, rfl⟩ := own_slice (HR.out k u b hu hb)
      have hcv : ∀ m, (convert 28 9 (.slice A2 b.length c3)).run Try.prog (wr.drewN m) = .ok (.string ⟨b.toArray⟩) (wr.drewN m) := fun m => conv_bytes _ _ b (hrd.below (below_drewN (Below.refl _ _) m))
      unfold strV at hc2
      clear hrd hu hb
      go_wp2_with fail
      go_quiet (fail)
      go_wp2_with fail
      go_roundw
      case rel => exact ⟨k + 1, by omega, by go_num, by repeat' (first | (with_reducible exact HBr.out) | (with_reducible refine below_drewN ?_ _) | (with_reducible refine Below.drew ?_))⟩
      case measure => simp [intOf]; omega
    · have hkk : k = ls.length := by omega
      subst hkk
      go_wp2_with fail
      go_ret
      exact ⟨rfl, HBr.out⟩

theorem resRef (tmps : Array Value) (W : World) (b : Nat) (c0 c1 c2 c3 : Value) (h2 : tmps.getD 2 undef = .pointer (some ⟨b, 0, none⟩))
    (hb : W.heap[b]? = some (.cells #[c0, c1, c2, c3] 40 (0, 0))) :
    (results Try.f16 tmps).run Try.prog W = .ok (.agg #[c0, c1, c2, c3]) W := by
  have a0 := blk_cell hb 0
  have a1 := blk_cell hb 1
  have a2 := blk_cell hb 2
  have a3 := blk_cell hb 3
  simp at a0 a1 a2 a3
  simp only [Array.getD_eq_getD_getElem?] at h2
  simp [results, Try.results16, go_sem, h2, a0, a1, a2, a3]

/-- The reference's fault. -/
def refV (f : FT) : Value := .agg #[.int .i64 f.kind, .int .i64 f.n, .int .u8 f.x, strV f.b]
set_option maxHeartbeats 2000000 in
theorem ref_any (w : World) (v : Value) (f : FT) (h : FaultV w v f) :
    Calls Try.prog 16 #[v] w fun e w' => e = .returned (refV f) ∧ Below w.heap.size w w' := by
  obtain ⟨A, c, rfl, hr, _⟩ := h
  have kc : ∀ o o', (convert 28 9 (.slice A f.b.length c)).run Try.prog ((w.alloc o).alloc o') = .ok (.string ⟨f.b.toArray⟩) ((w.alloc o).alloc o') := fun o o' => (hr.below (((Below.refl _ _).alloc (Nat.le_refl _) _).alloc (by simp) _)).conv
  clear hr
  go_enter Try.func16, Try.ntmps16
  go_wp2
  exact bodyPost_ret (resRef _ _ (w.heap.size + 1) (.int .i64 f.kind) (.int .i64 f.n) (.int .u8 f.x) (strV f.b) rfl (blk_new' _ _ _ (by simp))) rfl ⟨rfl, ((Below.refl _ _).alloc (Nat.le_refl _) _).alloc (by simp) _⟩

theorem ext_take (b : List UInt8) (k : Nat) : (⟨b.toArray⟩ : ByteArray).extract 0 k = ⟨(b.take k).toArray⟩ := by
  ext1
  simp [ByteArray.data_extract, List.extract_eq_take_drop]
theorem ext_from (b : List UInt8) (i k : Nat) (hk : b.length ≤ k) : (⟨b.toArray⟩ : ByteArray).extract i k = ⟨(b.drop i).toArray⟩ := by
  have h : (b.drop i).take (k - i) = b.drop i := List.take_of_length_le (by simp; omega)
  ext1
  simp [ByteArray.data_extract, List.extract_eq_take_drop, h]
theorem ba_app (a b : List UInt8) : (⟨a.toArray⟩ : ByteArray) ++ ⟨b.toArray⟩ = ⟨(a ++ b).toArray⟩ := by
  ext1
  simp [ByteArray.data_append]
theorem edit_cut (b : List UInt8) (j : Nat) (y : UInt8) (h : j < b.length) : b.take j ++ [y] ++ b.drop (j + 1) = b.set j y := by
  rw [List.set_eq_take_append_cons_drop, if_pos h]
  simp
/-- A slice's block is new. -/
def NewS (w : World) (v : Value) : Prop := ∀ A n c, v = .slice (some A) n c → w.heap.size ≤ A.block
/-- A slice lies in a block of texts. -/
def Ty9 (w : World) (v : Value) : Prop := ∀ A n c, v = .slice (some A) n c → ∃ cs, w.heap[A.block]? = some (.cells cs 9 (0, 0))
/-- The reference's answer: one text. -/
theorem refof_end {w w1 : World} (hb : Below w.heap.size w w1) (a : Nat) (ha : a = w1.heap.size) (l l' : List UInt8) (h : l = l') :
    ∃ v, Ending.returned (.slice (some ⟨a, 0, none⟩) 1 1) = .returned v ∧ ReadsS (w1.alloc (.cells #[.string ⟨l.toArray⟩] 9)) v [l'] ∧ Below w.heap.size w (w1.alloc (.cells #[.string ⟨l.toArray⟩] 9)) ∧ NewS w v ∧ Ty9 (w1.alloc (.cells #[.string ⟨l.toArray⟩] 9)) v := by
  subst ha
  subst h
  exact ⟨_, rfl, ⟨_, 1, rfl, Nat.le_refl _, (fun e => by cases e), fun ad he => by cases he; exact news_one (blk_new' _ _ _ rfl)⟩, hb.alloc hb.size _, (fun A n c e => by cases e; exact hb.size), (fun A n c e => by cases e; exact ⟨_, blk_new' _ _ _ rfl⟩)⟩
theorem refof_end2 {w w1 : World} (hb : Below w.heap.size w w1) (a : Nat) (ha : a = w1.heap.size) (l l' m : List UInt8) (h : l = l') :
    ∃ v, Ending.returned (.slice (some ⟨a, 0, none⟩) 2 2) = .returned v ∧ ReadsS (w1.alloc (.cells #[.string ⟨l.toArray⟩, .string ⟨m.toArray⟩] 9)) v [l', m] ∧ Below w.heap.size w (w1.alloc (.cells #[.string ⟨l.toArray⟩, .string ⟨m.toArray⟩] 9)) ∧ NewS w v ∧ Ty9 (w1.alloc (.cells #[.string ⟨l.toArray⟩, .string ⟨m.toArray⟩] 9)) v := by
  subst ha
  subst h
  exact ⟨_, rfl, ⟨_, 2, rfl, Nat.le_refl _, (fun e => by cases e), fun ad he => by cases he; exact cells_two _ (blk_new' _ _ _ rfl)⟩, hb.alloc hb.size _, (fun A n c e => by cases e; exact hb.size), (fun A n c e => by cases e; exact ⟨_, blk_new' _ _ _ rfl⟩)⟩
theorem ba_at (b : List UInt8) (j : Nat) (h : j < b.length) (h' : j < (⟨b.toArray⟩ : ByteArray).size) : (⟨b.toArray⟩ : ByteArray)[j] = b.getD j 0 := by
  have h1 : (⟨b.toArray⟩ : ByteArray)[j] = b.toArray[j] := rfl
  rw [h1]
  simp [List.getD, List.getElem?_eq_getElem h]
theorem edit_text (b : List UInt8) (j : Nat) (x : Int) (h : j < b.length) (h' : j < (⟨b.toArray⟩ : ByteArray).size) :
    ((⟨(b.take j).toArray⟩ : ByteArray) ++ ⟨#[UInt8.ofNat (bits .xor .u8 (((⟨b.toArray⟩ : ByteArray)[j]).toNat : Int) x).toNat]⟩ ++ ⟨(b.drop (j + 1)).toArray⟩).data.toList = editF b j x := by
  rw [ba_at b j h]
  unfold editF
  rw [← edit_cut b j _ h]
  simp [ByteArray.data_append]
theorem edit_text0 (b : List UInt8) (x : Int) (h : 0 < b.length) (h' : 0 < (⟨b.toArray⟩ : ByteArray).size) :
    ((⟨#[UInt8.ofNat (bits .xor .u8 (((⟨b.toArray⟩ : ByteArray)[0]).toNat : Int) x).toNat]⟩ : ByteArray) ++ ⟨b.tail.toArray⟩).data.toList = editF b 0 x := by
  rw [ba_at b 0 h]
  unfold editF
  rw [← edit_cut b 0 _ h]
  simp [ByteArray.data_append]
theorem refof_endS {w w1 : World} (hb : Below w.heap.size w w1) (a : Nat) (ha : a = w1.heap.size) (s : ByteArray) (l' : List UInt8) (h : s.data.toList = l') :
    ∃ v, Ending.returned (.slice (some ⟨a, 0, none⟩) 1 1) = .returned v ∧ ReadsS (w1.alloc (.cells #[.string s] 9)) v [l'] ∧ Below w.heap.size w (w1.alloc (.cells #[.string s] 9)) ∧ NewS w v ∧ Ty9 (w1.alloc (.cells #[.string s] 9)) v := by
  have e : s = ⟨l'.toArray⟩ := by ext1; rw [← h]
  rw [e]
  exact refof_end hb a ha l' l' rfl
theorem conv_one (W : World) (a : Nat) (z : Int) (ha : a = W.heap.size) (h0 : 0 ≤ z) (h1 : z ≤ 255) :
    (convert 28 9 (.slice (some ⟨a, 0, none⟩) 1 1)).run Try.prog (W.alloc (.cells #[.int .u8 z] 5)) = .ok (.string ⟨[UInt8.ofNat z.toNat].toArray⟩) (W.alloc (.cells #[.int .u8 z] 5)) := by
  subst ha
  refine run_convert_bytes_back _ 28 9 5 ⟨W.heap.size, 0, none⟩ 1 [UInt8.ofNat z.toNat] Try.underlying28 Try.underlying5 Try.underlying9 fun j hj => ?_
  obtain rfl : j = 0 := by simp at hj; omega
  have h3 : (⟨W.heap.size, 0, none⟩ : Addr).add 0 = ⟨W.heap.size, 0, none⟩ := rfl
  rw [h3, blk_cell (blk_new W _) 0]
  simp
  omega

set_option maxHeartbeats 4000000 in
theorem refof_any (w : World) (f : FT) (b : List UInt8) (hn : f.n ≤ 9223372036854775807) (hfb : f.b.length ≤ 9223372036854775807) (hx0 : 0 ≤ f.x) (hx1 : f.x ≤ 255) (hl : b.length ≤ 200) :
    Calls Try.prog 15 #[refV f, strV b] w fun e w' => ∃ v, e = .returned v ∧ ReadsS w' v (f.of b) ∧ Below w.heap.size w w' ∧ NewS w v ∧ Ty9 w' v := by
  obtain ⟨k, n, x, fb⟩ := f
  simp only [] at hn hx0 hx1 hfb
  unfold refV strV
  have hB1 : Below w.heap.size w (w.alloc (.cells #[.int .i64 k, .int .i64 n, .int .u8 x, .string ⟨fb.toArray⟩] 40)) := (Below.refl _ _).alloc (Nat.le_refl _) _
  have HB1 := Lib.hid hB1
  clear hB1
  by_cases k1 : k = 1
  · subst k1
    have e : FT.of ⟨1, n, x, fb⟩ b = [] := rfl
    rw [e]
    clear e
    go_enter Try.func15, Try.ntmps15
    go_wp2_with fail
    go_ret
    exact ⟨_, rfl, ⟨none, 0, rfl, Nat.le_refl _, fun _ => rfl, fun ad h => by cases h⟩, HB1.out, (fun A n c e => by cases e), (fun A n c e => by cases e)⟩
  by_cases k2 : k = 2
  · subst k2
    have e : FT.of ⟨2, n, x, fb⟩ b = [b, b] := rfl
    rw [e]
    clear e
    go_enter Try.func15, Try.ntmps15
    go_wp2_with fail
    go_ret
    exact ⟨_, rfl, ⟨_, 2, rfl, Nat.le_refl _, (fun e => by cases e), fun ad he => by cases he; exact cells_two _ (blk_new' _ _ _ (by simp))⟩, HB1.out.alloc (by simp) _, (fun A n c e => by cases e; simp), (fun A n c e => by cases e; exact ⟨_, blk_new' _ _ _ (by simp)⟩)⟩
  by_cases k4 : k = 4
  · subst k4
    by_cases hb0 : b.length = 0
    · have e : FT.of ⟨4, n, x, fb⟩ b = [b] := by simp [FT.of, hb0]
      rw [e]
      clear e
      have e1 : b.isEmpty = true := by cases b with | nil => rfl | cons _ _ => simp at hb0
      have HB0 := Lib.hid hb0
      clear hb0
      go_enter Try.func15, Try.ntmps15
      go_wp2_with fail
      go_ret
      exact ⟨_, rfl, ⟨_, 1, rfl, Nat.le_refl _, (fun e => by cases e), fun ad he => by cases he; exact news_one (blk_new' _ _ _ (by simp))⟩, HB1.out.alloc (by simp) _, (fun A n c e => by cases e; simp), (fun A n c e => by cases e; exact ⟨_, blk_new' _ _ _ (by simp)⟩)⟩
    · have e1 : b.isEmpty = false := by cases b with | nil => simp at hb0 | cons _ _ => rfl
      have hbl : 0 < b.length := by omega
      have hbne : b ≠ [] := by rintro rfl; simp at hbl
      obtain ⟨j, hj, hj1⟩ : ∃ j : Nat, j = n.toNat % b.length ∧ j < b.length := ⟨_, rfl, Nat.mod_lt _ hbl⟩
      have e : FT.of ⟨4, n, x, fb⟩ b = [editF b j x] := by
        simp [FT.of, FT.pos, hbne, hj]
      rw [e]
      clear e
      have h5 := ext_take b
      have h6 := ext_from b (j + 1) b.length (Nat.le_refl _)
      have hjn : (j : Int) = if n < 0 then 0 else n % (b.length : Int) := by
        split
        · have : n.toNat = 0 := by omega
          rw [hj, this]; simp
        · rw [hj, Int.natCast_emod]
          congr 1
          omega
      clear hj
      have kc : ∀ (o : Obj) (z : Int), (convert 28 9 (.slice (some ⟨w.heap.size + 1, 0, none⟩) 1 1)).run Try.prog ((w.alloc o).alloc (.cells #[.int .u8 (bits .xor .u8 z x)] 5)).drew = .ok (.string ⟨[UInt8.ofNat (bits .xor .u8 z x).toNat].toArray⟩) ((w.alloc o).alloc (.cells #[.int .u8 (bits .xor .u8 z x)] 5)).drew :=
        fun o z => conv_one (w.alloc o).drew _ _ (by show _ = (w.alloc o).heap.size; simp) (bits_u8 .xor z x rfl).1 (bits_u8 .xor z x rfl).2
      by_cases hn0 : n < 0
      · rw [if_pos hn0] at hjn
        obtain rfl : j = 0 := by omega
        clear hjn
        go_enter Try.func15, Try.ntmps15
        go_wp2_with fail
        go_region
        go_wp2_with fail
        go_ret
        refine refof_endS (((Below.drew (HB1.out.alloc (by simp) _)))) _ (by simp) _ _ ?_
        exact edit_text0 b x hbl _
      · rw [if_neg hn0] at hjn
        have hjn' := hjn.symm
        clear hjn
        go_enter Try.func15, Try.ntmps15
        go_wp2_with fail
        go_region
        go_wp2_with fail
        go_ret
        refine refof_endS (((Below.drew (HB1.out.alloc (by simp) _)))) _ (by simp) _ _ ?_
        exact edit_text b j x hj1 _
  by_cases k5 : k = 5
  · subst k5
    have e : FT.of ⟨5, n, x, fb⟩ b = [b.take n.toNat] := by simp [FT.of, FT.pos]
    rw [e]
    clear e
    have h5 := ext_take b
    go_enter Try.func15, Try.ntmps15
    go_wp2_with fail
    all_goals
      go_ret
      refine refof_end HB1.out _ (by simp) _ _ ?_
      first | rfl | (rw [List.take_of_length_le (by omega)]) | ((have h0 : n.toNat = 0 := (by omega)); rw [h0, List.take_zero])
  by_cases k6 : k = 6
  · subst k6
    have e : FT.of ⟨6, n, x, fb⟩ b = [fb.take 64, b] := by simp [FT.of]
    rw [e]
    clear e
    have h5 := ext_take fb
    go_enter Try.func15, Try.ntmps15
    go_wp2_with fail
    all_goals
      go_ret
      refine refof_end2 HB1.out _ (by simp) _ _ _ ?_
      first | rfl | (rw [List.take_of_length_le (by omega)]) | ((have h0 : n.toNat = 0 := (by omega)); rw [h0, List.take_zero])
  · have e : FT.of ⟨k, n, x, fb⟩ b = [b] := by simp [FT.of, k1, k2, k4, k5, k6]
    rw [e]
    clear e
    have e1 : (k == 1) = false := by simpa using k1
    have e2 : (k == 2) = false := by simpa using k2
    have e4 : (k == 4) = false := by simpa using k4
    have e5 : (k == 5) = false := by simpa using k5
    have e6 : (k == 6) = false := by simpa using k6
    go_enter Try.func15, Try.ntmps15
    go_wp2_with fail
    go_ret
    exact ⟨_, rfl, ⟨_, 1, rfl, Nat.le_refl _, (fun e => by cases e), fun ad he => by cases he; exact news_one (blk_new' _ _ _ (by simp))⟩, HB1.out.alloc (by simp) _, (fun A n c e => by cases e; simp), (fun A n c e => by cases e; exact ⟨_, blk_new' _ _ _ (by simp)⟩)⟩
end Go.Proofs.Ytcdanimdkkhamaa
