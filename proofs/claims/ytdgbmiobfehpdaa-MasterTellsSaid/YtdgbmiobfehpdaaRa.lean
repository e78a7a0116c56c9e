/- The reference's master: New, closes, Missed, Send. Written by gen_refa.py. -/
import Derived.Test.YtdgbmiobfehpdaaKp
import Derived.Test.YtdgbmiobfehpdaaMe
import Derived.Laws.AppendOwnNone
import Derived.Laws.OwnMore
set_option linter.unusedVariables false
set_option linter.unusedSimpArgs false
namespace Go.Proofs.Ytdgbmiobfehpdaa
open Go.RowKit

/-- Bytes as a text. -/
def strV (b : List UInt8) : Value := .string ⟨b.toArray⟩
/-- The reference's master in memory. -/
structure RefMAt (w : World) (B g : Nat) (M : MS) : Prop where
  ge : B ≤ g
  ok : M.Ok
  ex : ∃ v, w.heap[g]? = some (.cells #[.int .u8 M.addr, .int .u8 M.num, .int .i64 M.tries, .int .i64 M.state, .int .i64 M.epoch, .int .u8 M.sends, .int .u8 M.hears, v, .int .i64 M.misses] 51 (0, 0)) ∧ OffRow w B 9 1 v M.queue.length (M.queue.map strV)
theorem RefMAt.lt {w : World} {B g : Nat} {M : MS} (h : RefMAt w B g M) : g < w.heap.size := by
  obtain ⟨v, hg, _⟩ := h.ex
  exact blk_lt hg
theorem RefMAt.below {w w1 : World} {B g : Nat} {M : MS} (h : RefMAt w B g M) (hk : Below w.heap.size w w1) : RefMAt w1 B g M := by
  obtain ⟨v, hg, hq⟩ := h.ex
  exact ⟨h.ge, h.ok, v, blk_below' hg hk, hq.below hk⟩
theorem off_ty {w : World} {B n size : Nat} {e : TypeId} {v : Value} {xs : List Value} (h : OffRow w B e size v n xs) (k : Nat) (hk : v.ownBlock = some k) : ∃ cs, w.heap[k]? = some (.cells cs e (0, 0)) := by
  rcases h.2 with ⟨rfl, _⟩ | ⟨g', o, cap, cur, rfl, _, hh, _⟩
  · simp [Value.ownBlock] at hk
  · simp [Value.ownBlock] at hk
    subst hk
    exact ⟨_, hh⟩
theorem RefMAt.kept {w w1 : World} {B B' g : Nat} {M : MS} {ts : List TypeId} (h : RefMAt w B g M) (hk : Kept B' ts w w1) (h1 : 51 ∉ ts) (h2 : 9 ∉ ts) : RefMAt w1 B g M := by
  obtain ⟨v, hg, hq⟩ := h.ex
  refine ⟨h.ge, h.ok, v, hk.blk hg h1, hq.keep fun k hkk => ?_⟩
  obtain ⟨cs, hh⟩ := off_ty hq k hkk
  exact hk.block k (blk_lt hh) (.inr ⟨_, _, _, hh, h2⟩)
theorem off_of_own {w : World} {B n size : Nat} {e : TypeId} {v : Value} {xs : List Value} (h : w.ownsRow B e size v n xs) : OffRow w B e size v n xs := by
  refine ⟨h.1, ?_⟩
  rcases h.2 with h0 | ⟨g, cap, cur, rfl, hb, hh, h1, h2, h3, h4⟩
  · exact .inl h0
  · exact .inr ⟨g, 0, cap, cur, by simp, hb, hh, h1, h2, by simp [h3], by simpa using h4⟩
theorem off_lower {w : World} {B B' n size : Nat} {e : TypeId} {v : Value} {xs : List Value} (h : OffRow w B e size v n xs) (hb : B' ≤ B) : OffRow w B' e size v n xs := by
  refine ⟨h.1, ?_⟩
  rcases h.2 with h0 | ⟨g, o, cap, cur, rfl, hbg, rest⟩
  · exact .inl h0
  · exact .inr ⟨g, o, cap, cur, rfl, Nat.le_trans hb hbg, rest⟩
/-- The cells of a row that begins somewhere. -/
theorem OffRow.cells1 {w : World} {base n : Nat} {e : TypeId} {xs : List Value} {ad : Addr} {c : Nat} (h : OffRow w base e 1 (.slice (some ad) n c) n xs) : ∀ (j : Nat) (u : Value), xs[j]? = some u → w.cell? (ad.add j) = some u := by
  intro j u hu
  rcases h.2 with ⟨h0, _⟩ | ⟨g, o, cap, cur, he, hb, hg, hnc, hcm, hcs, htake⟩
  · cases h0
  · cases he
    rw [Addr.add_lit, blk_cell hg]
    rw [← htake] at hu
    have hj : j < n := by
      have := (List.getElem?_eq_some_iff.1 hu).1
      simp at this
      omega
    rw [List.getElem?_take, if_pos (by omega), List.getElem?_drop] at hu
    rw [← hu]
    simp
/-- Where the reference's own block is written, and its row stays. -/
theorem RefMAt.bits {w w1 : World} {B g : Nat} {M' : MS} {v : Value} {cs : Array Value} (hB : B ≤ g) (hok : M'.Ok) (hg : w.heap[g]? = some (.cells cs 51 (0, 0))) (hq : OffRow w B 9 1 v M'.queue.length (M'.queue.map strV)) (hgr : w.grownBy w1 (some g))
    (hn : w1.heap[g]? = some (.cells #[.int .u8 M'.addr, .int .u8 M'.num, .int .i64 M'.tries, .int .i64 M'.state, .int .i64 M'.epoch, .int .u8 M'.sends, .int .u8 M'.hears, v, .int .i64 M'.misses] 51 (0, 0))) : RefMAt w1 B g M' :=
  ⟨hB, hok, v, hn, hq.grown hgr fun k hk e => hq.ne hg (by decide) k hk (by simpa using e)⟩
theorem Try.infoStr : (Try.prog.info? 9).map (fun i => (i.zero, i.size, i.bytes)) = some (some (.string ⟨#[]⟩), 1, 16) := by kernel_rfl

set_option maxHeartbeats 1000000 in
theorem refm_new (w : World) (a t : Int) (ht : t ≤ 9223372036854775807) :
    Calls Try.prog 16 #[.int .u8 a, .int .i64 t] w fun e w' => e = .returned (.pointer (some ⟨w.heap.size, 0, none⟩)) ∧ Below w.heap.size w w' ∧ RefMAt w' w.heap.size w.heap.size (MS.new a t) := by
  have hok := Lib.hid (MS.Ok.new a t ht)
  by_cases h1 : t < 1
  · have hmax : (if t < 1 then 1 else t) = 1 := if_pos h1
    go_enter Try.func16, Try.ntmps16
    go_wp2_with fail
    go_returns
    refine ⟨rfl, (Below.refl _ _).alloc (Nat.le_refl _) _, ⟨Nat.le_refl _, hok.out, .slice none 0 0, ?_, OffRow.nil _ _ _ _⟩⟩
    show _ = some (Obj.cells #[.int .u8 a, .int .u8 1, .int .i64 (if t < 1 then 1 else t), .int .i64 0, .int .i64 0, .int .u8 0, .int .u8 0, .slice none 0 0, .int .i64 0] _ _)
    rw [hmax]
    exact blk_new _ _
  · have hmax : (if t < 1 then 1 else t) = t := if_neg h1
    go_enter Try.func16, Try.ntmps16
    go_wp2_with fail
    go_returns
    refine ⟨rfl, (Below.refl _ _).alloc (Nat.le_refl _) _, ⟨Nat.le_refl _, hok.out, .slice none 0 0, ?_, OffRow.nil _ _ _ _⟩⟩
    show _ = some (Obj.cells #[.int .u8 a, .int .u8 1, .int .i64 (if t < 1 then 1 else t), .int .i64 0, .int .i64 0, .int .u8 0, .int .u8 0, .slice none 0 0, .int .i64 0] _ _)
    rw [hmax]
    exact blk_new _ _

set_option maxHeartbeats 2000000 in
theorem refm_closes (w : World) (g : Nat) (a n t st ep s h ms x : Int) (v : Value) (hn0 : 1 ≤ n) (hn1 : n ≤ 255) (hg : w.heap[g]? = some (.cells #[.int .u8 a, .int .u8 n, .int .i64 t, .int .i64 st, .int .i64 ep, .int .u8 s, .int .u8 h, v, .int .i64 ms] 51 (0, 0))) :
    Calls Try.prog 30 #[.pointer (some ⟨g, 0, none⟩), .int .i64 x] w fun e w' => e = .returned (.tuple #[]) ∧ w.grownBy w' (some g) ∧ w'.heap[g]? = some (.cells #[.int .u8 a, .int .u8 (n % 255 + 1), .int .i64 t, .int .i64 x, .int .i64 ep, .int .u8 s, .int .u8 h, .slice none 0 0, .int .i64 0] 51 (0, 0)) := by
  by_cases h255 : n = 255
  · subst h255
    obtain ⟨h0, h1, h2, h3, h4, h5, h6, h7, h8⟩ := blk9 hg
    obtain ⟨f0, f1, f2, f3, f4, f5, f6, f7, f8⟩ := frz9 hg
    have H := Lib.hid hg
    clear hg
    go_enter Try.func30, Try.ntmps30
    go_wp2
    go_end0
    refine ⟨rfl, ?_, ?_⟩
    · repeat' (first | (with_reducible exact grown_refl _ _) | (with_reducible refine grown_set ?_ _ _) | (with_reducible refine grown_drewN ?_ _) | (with_reducible refine grown_drew ?_))
    · have := blk_set (blk_set (blk_set (blk_set (blk_set H.out 3 (.int .i64 x)) 1 (.int .u8 0)) 1 (.int .u8 1)) 7 (.slice none 0 0)) 8 (.int .i64 0)
      simpa using this
  · have hw : IntKind.u8.wrap (n + 1) = n + 1 := IntWalk.u8_in _ (by omega)
    have e1 : (n + 1 == 0) = false := by simp; omega
    have hm : n % 255 + 1 = n + 1 := by omega
    obtain ⟨h0, h1, h2, h3, h4, h5, h6, h7, h8⟩ := blk9 hg
    obtain ⟨f0, f1, f2, f3, f4, f5, f6, f7, f8⟩ := frz9 hg
    have H := Lib.hid hg
    clear hg
    go_enter Try.func30, Try.ntmps30
    go_wp2
    go_end0
    refine ⟨rfl, ?_, ?_⟩
    · repeat' (first | (with_reducible exact grown_refl _ _) | (with_reducible refine grown_set ?_ _ _) | (with_reducible refine grown_drewN ?_ _) | (with_reducible refine grown_drew ?_))
    · have := blk_set (blk_set (blk_set (blk_set H.out 3 (.int .i64 x)) 1 (.int .u8 (n + 1))) 7 (.slice none 0 0)) 8 (.int .i64 0)
      simpa [hm] using this

set_option maxHeartbeats 1600000 in
theorem refm_missed_no (w : World) (g : Nat) (a n t st ep s h ms : Int) (v : Value) (hm0 : 0 ≤ ms) (hm1 : ms + 1 < t) (ht : t ≤ 9223372036854775807) (hg : w.heap[g]? = some (.cells #[.int .u8 a, .int .u8 n, .int .i64 t, .int .i64 st, .int .i64 ep, .int .u8 s, .int .u8 h, v, .int .i64 ms] 51 (0, 0))) :
    Calls Try.prog 23 #[.pointer (some ⟨g, 0, none⟩)] w fun e w' => e = .returned (.bool false) ∧ w.grownBy w' (some g) ∧ w'.heap[g]? = some (.cells #[.int .u8 a, .int .u8 n, .int .i64 t, .int .i64 st, .int .i64 ep, .int .u8 s, .int .u8 h, v, .int .i64 (ms + 1)] 51 (0, 0)) := by
  obtain ⟨h0, h1, h2, h3, h4, h5, h6, h7, h8⟩ := blk9 hg
  obtain ⟨f0, f1, f2, f3, f4, f5, f6, f7, f8⟩ := frz9 hg
  have H := Lib.hid hg
  clear hg
  have k1 : decide (ms + 1 < t) = true := by simpa using hm1
  go_enter Try.func23, Try.ntmps23
  go_wp2_with fail
  go_quiet (fail)
  go_wp2
  go_ret
  refine ⟨rfl, ?_, ?_⟩
  · repeat' (first | (with_reducible exact grown_refl _ _) | (with_reducible refine grown_set ?_ _ _) | (with_reducible refine grown_drewN ?_ _) | (with_reducible refine grown_drew ?_))
  · exact blk_set H.out 8 (.int .i64 (ms + 1))
set_option maxHeartbeats 1600000 in
theorem refm_missed_yes (w : World) (g : Nat) (a n t st ep s h ms : Int) (v : Value) (hm0 : 0 ≤ ms) (hm1 : ¬ ms + 1 < t) (hm2 : ms < t) (ht : t ≤ 9223372036854775807) (hn0 : 1 ≤ n) (hn1 : n ≤ 255) (hg : w.heap[g]? = some (.cells #[.int .u8 a, .int .u8 n, .int .i64 t, .int .i64 st, .int .i64 ep, .int .u8 s, .int .u8 h, v, .int .i64 ms] 51 (0, 0))) :
    Calls Try.prog 23 #[.pointer (some ⟨g, 0, none⟩)] w fun e w' => e = .returned (.bool (decide (st ≠ 2))) ∧ w.grownBy w' (some g) ∧ w'.heap[g]? = some (.cells #[.int .u8 a, .int .u8 (n % 255 + 1), .int .i64 t, .int .i64 2, .int .i64 ep, .int .u8 s, .int .u8 h, .slice none 0 0, .int .i64 0] 51 (0, 0)) := by
  obtain ⟨h0, h1, h2, h3, h4, h5, h6, h7, h8⟩ := blk9 hg
  obtain ⟨f0, f1, f2, f3, f4, f5, f6, f7, f8⟩ := frz9 hg
  have H := Lib.hid hg
  clear hg
  have k1 : decide (ms + 1 < t) = false := by simpa using hm1
  go_enter Try.func23, Try.ntmps23
  go_wp2_with fail
  go_quiet (fail)
  go_wp2_with fail
  refine (refm_closes _ g a n t st ep s h (ms + 1) 2 v hn0 hn1 ?hh).mono ?_
  case hh => exact blk_set H.out 8 (.int .i64 (ms + 1))
  rintro e w1 ⟨rfl, hgr, hg1⟩
  have HG1 := Lib.hid hg1
  have HGR : Hid (w.grownBy w1 (some g)) := by
    refine grown_trans ?_ hgr
    repeat' (first | (with_reducible exact grown_refl _ _) | (with_reducible refine grown_set ?_ _ _) | (with_reducible refine grown_drewN ?_ _) | (with_reducible refine grown_drew ?_))
  clear hg1 hgr
  go_wp2_with fail
  go_ret
  refine ⟨?_, HGR.out, HG1.out⟩
  first | rfl | (congr 2; simp [bne]; done) | (congr 2; by_cases e : st = 2 <;> simp [e])
theorem refm_missed (w : World) (B g : Nat) (M M' : MS) (d : Bool) (h : RefMAt w B g M) (hF : M.missedF = (d, M')) :
    Calls Try.prog 23 #[.pointer (some ⟨g, 0, none⟩)] w fun e w' => e = .returned (.bool d) ∧ w.grownBy w' (some g) ∧ RefMAt w' B g M' := by
  obtain ⟨v, hg, hq⟩ := h.ex
  have hok := h.ok.missed hF
  unfold MS.missedF at hF
  split at hF
  · rename_i hlt
    cases hF
    refine (refm_missed_no w g _ _ _ _ _ _ _ _ v h.ok.m0 hlt h.ok.t1 hg).mono ?_
    rintro e w' ⟨rfl, hgr, hg'⟩
    exact ⟨rfl, hgr, RefMAt.bits h.ge hok hg hq hgr hg'⟩
  · rename_i hlt
    cases hF
    refine (refm_missed_yes w g _ _ _ _ _ _ _ _ v h.ok.m0 hlt h.ok.m1 h.ok.t1 h.ok.n0 h.ok.n1 hg).mono ?_
    rintro e w' ⟨rfl, hgr, hg'⟩
    exact ⟨rfl, hgr, RefMAt.bits h.ge hok hg (OffRow.nil _ _ _ _) hgr hg'⟩

set_option maxHeartbeats 2000000 in
theorem refm_send_no (w : World) (g : Nat) (b : List UInt8) (hl : b.length = 0 ∨ 24 < b.length) :
    Calls Try.prog 19 #[.pointer (some ⟨g, 0, none⟩), .string ⟨b.toArray⟩] w fun e w' => e = .returned (.int .i64 1) ∧ w = w' := by
  rcases hl with hl | hl
  · obtain rfl := List.eq_nil_of_length_eq_zero hl
    go_enter Try.func19, Try.ntmps19
    go_wp2
    go_ret
    exact ⟨rfl, rfl⟩
  · have e1 : b.isEmpty = false := by cases b with | nil => simp at hl | cons _ _ => rfl
    have e2 : decide ((24 : Int) < (b.length : Int)) = true := by simp; omega
    go_enter Try.func19, Try.ntmps19
    go_wp2
    go_ret
    exact ⟨rfl, rfl⟩
set_option maxHeartbeats 2000000 in
theorem refm_send_state (w : World) (g : Nat) (st : Int) (b : List UInt8) (hl : 0 < b.length) (hl2 : b.length ≤ 24) (h3 : w.cell? ⟨g, 3, none⟩ = some (.int .i64 st)) (hn : st ≠ 1) :
    Calls Try.prog 19 #[.pointer (some ⟨g, 0, none⟩), .string ⟨b.toArray⟩] w fun e w' => e = .returned (.int .i64 7) ∧ w = w' := by
  have e1 : b.isEmpty = false := by cases b with | nil => simp at hl | cons _ _ => rfl
  have e2 : decide ((24 : Int) < (b.length : Int)) = false := by simp; omega
  have e3 : (st != 1) = true := by simpa using hn
  go_enter Try.func19, Try.ntmps19
  go_wp2
  go_ret
  exact ⟨rfl, rfl⟩
set_option maxHeartbeats 2000000 in
theorem refm_send_full (w : World) (g n' c' : Nat) (A' : Option Addr) (b : List UInt8) (hl : 0 < b.length) (hl2 : b.length ≤ 24) (h3 : w.cell? ⟨g, 3, none⟩ = some (.int .i64 1)) (h7 : w.cell? ⟨g, 7, none⟩ = some (.slice A' n' c')) (hn : 8 ≤ n') :
    Calls Try.prog 19 #[.pointer (some ⟨g, 0, none⟩), .string ⟨b.toArray⟩] w fun e w' => e = .returned (.int .i64 5) ∧ w = w' := by
  have e1 : b.isEmpty = false := by cases b with | nil => simp at hl | cons _ _ => rfl
  have e2 : decide ((24 : Int) < (b.length : Int)) = false := by simp; omega
  have k4 : decide (8 ≤ n') = true := by simpa using hn
  go_enter Try.func19, Try.ntmps19
  go_wp2
  go_ret
  exact ⟨rfl, rfl⟩
set_option maxHeartbeats 4000000 in
theorem refm_send_ok (w : World) (B g : Nat) (a n t ep s h ms : Int) (v : Value) (q : List (List UInt8)) (b : List UInt8) (hl : 0 < b.length) (hl2 : b.length ≤ 24) (hq : q.length < 8) (hB : B ≤ g)
    (hoff : OffRow w B 9 1 v q.length (q.map strV)) (hg : w.heap[g]? = some (.cells #[.int .u8 a, .int .u8 n, .int .i64 t, .int .i64 1, .int .i64 ep, .int .u8 s, .int .u8 h, v, .int .i64 ms] 51 (0, 0))) :
    Calls Try.prog 19 #[.pointer (some ⟨g, 0, none⟩), .string ⟨b.toArray⟩] w fun e w' => e = .returned (.int .i64 0) ∧ w.grownBy w' (some g) ∧ ∃ v2, w'.heap[g]? = some (.cells #[.int .u8 a, .int .u8 n, .int .i64 t, .int .i64 1, .int .i64 ep, .int .u8 s, .int .u8 h, v2, .int .i64 ms] 51 (0, 0)) ∧ OffRow w' B 9 1 v2 (q.length + 1) ((q ++ [b]).map strV) := by
  have e1 : b.isEmpty = false := by cases b with | nil => simp at hl | cons _ _ => rfl
  have e2 : decide ((24 : Int) < (b.length : Int)) = false := by simp; omega
  have k4 : decide (8 ≤ q.length) = false := by simp; omega
  obtain ⟨i0, hi, hz0, hz1, hz2⟩ := info_parts Try.infoStr
  obtain ⟨A', c', rfl⟩ := hoff.slice
  have hlt := blk_lt hg
  have HO := Lib.hid hoff
  have HQ := Lib.hid hq
  clear hoff
  obtain ⟨h0, h1, h2, h3, h4, h5, h6, h7, h8⟩ := blk9 hg
  obtain ⟨f0, f1, f2, f3, f4, f5, f6, f7, f8⟩ := frz9 hg
  have H := Lib.hid hg
  clear hg
  have hne := World.new_ne w ⟨g, 7, none⟩ h7
  simp only [] at hne
  have hAc : A' = none → q = [] ∧ c' = 0 := fun hA => by
    subst hA
    rcases HO.out.2 with ⟨h0, h1⟩ | ⟨_, _, _, _, h0, _⟩
    · injection h0 with _ e2 e3
      exact ⟨List.eq_nil_of_length_eq_zero h1, e3⟩
    · cases h0
  have hfin : ∀ (w2 w3 : World) (v1 v2 : Value), w2.ownsRow w.heap.size 9 1 v1 q.length (q.map strV) → Below w.heap.size w w2 → w3.ownsRow w.heap.size 9 1 v2 (q.length + 1) (q.map strV ++ [strV b]) → (w2.alloc (.cells #[strV b] 9)).grownBy w3 v1.ownBlock →
      w.grownBy (w3.setCell ⟨g, 7, none⟩ v2) (some g) ∧ ∃ v2', (w3.setCell ⟨g, 7, none⟩ v2).heap[g]? = some (.cells #[.int .u8 a, .int .u8 n, .int .i64 t, .int .i64 1, .int .i64 ep, .int .u8 s, .int .u8 h, v2', .int .i64 ms] 51 (0, 0)) ∧ OffRow (w3.setCell ⟨g, 7, none⟩ v2) B 9 1 v2' (q.length + 1) ((q ++ [b]).map strV) := by
    intro w2 w3 v1 v2 ho2 hb2 ho3 hg3
    have hb3 : Below w.heap.size w w3 := (hb2.alloc hb2.size _).grown hg3 (by have := hb2.size; simp; omega) (fun k hk => (own_lt ho2 k hk).1)
    have hh3 := blk_below' H.out hb3
    refine ⟨grown_set (grown_below hb3 _) _ _, v2, ?_, ?_⟩
    · have := blk_set hh3 7 v2
      simpa using this
    · have h4 : (q ++ [b]).map strV = q.map strV ++ [strV b] := by simp
      rw [h4]
      refine off_lower (off_of_own (own_keep ho3 fun k hk => far1 ?_ rfl)) (by omega)
      have := own_ne ho3 hh3 (by decide) k hk
      simpa using this
  have HFIN := Lib.hid hfin
  clear hfin
  have hone : Hid (∀ u ∈ [strV b], u.oneCell' = true) := by show ∀ u ∈ [strV b], _; simp [strV, Value.oneCell']
  have HM := Lib.hid (World.ownsRow_made (base := w.heap.size) (e := 9) (size := 1) w #[] 0 (Nat.le_refl _) (Nat.zero_le _) rfl)
  go_enter Try.func19, Try.ntmps19
  cases A' with
  | none =>
    obtain ⟨rfl, rfl⟩ := hAc rfl
    clear hAc
    have hmx : 0 + 1 ≤ maxLen := by unfold maxLen; omega
    have hby : (0 + 1) * 16 ≤ 140737488355328 := by omega
    have hsz : Hid (w.heap.size ≤ ((w.alloc (.cells #[] 9)).alloc (.cells #[strV b] 9)).heap.size) := by show _ ≤ _; simp; omega
    have hs2 : Hid (w.heap.size + 1 = (w.alloc (.cells #[] 9)).heap.size) := by show _ = _; simp
    have HX2 := Lib.hid (blk_alloc H.out (.cells #[] 9))
    have HNE : Hid (some g ≠ (Value.slice (some ⟨w.heap.size, 0, none⟩) 0 0).ownBlock) := fun e9 => by simp [Value.ownBlock] at e9; omega
    go_wp2_with (first
      | (at_builtin; refine wpList_append_own_none rfl (.tmp 24) (.tmp 28) 49 rfl w.heap.size 9 i0 1 Try.underlying49 hi (.slice (some ⟨w.heap.size, 0, none⟩) 0 0) 0 [] rfl HM.out rfl ?_)
      | (at_builtin; refine wpList_append_own _ rfl (.tmp 29) (.tmp 31) 49 rfl w.heap.size 9 i0 (.string ⟨#[]⟩) 1 16 Try.underlying49 hi hz0 hz1 hz2 rfl (by decide) (.slice (some ⟨w.heap.size, 0, none⟩) 0 0) 0 [] rfl ?_ ⟨w.heap.size + 1, 0, none⟩ 1 1 [strV b] rfl rfl ?_ ?_ ?_ ?_ ?_ ?_
         exact own_below HM.out ((Below.refl _ _).alloc (Nat.le_refl _) _)
         exact news_one (blk_new' _ _ _ hs2.out)
         exact hone.out
         exact hmx
         exact hby
         exact hsz.out
         intro v3 w3 ho3 hg3 _
         obtain ⟨A3, c3, rfl⟩ := own_slice ho3
         have hx3 := blk_grown (blk_alloc HX2.out _) hg3 HNE.out
         have q7 := blk_cell hx3 7
         have qf := blk_frozen hx3 7
         simp at q7
         have HO3 := Lib.hid ho3
         have HG3 := Lib.hid hg3
         clear hx3 ho3 hg3))
    go_ret
    exact ⟨rfl, HFIN.out (w.alloc (.cells #[] 9)) w3 _ _ HM.out ((Below.refl _ _).alloc (Nat.le_refl _) _) (by simpa using HO3.out) HG3.out⟩
  | some ad =>
    clear hAc
    have hones : Hid (∀ u ∈ q.map strV, u.oneCell' = true) := by
      intro u hu
      obtain ⟨x, _, rfl⟩ := List.mem_map.1 hu
      rfl
    have hmx0 : 0 + q.length ≤ maxLen := by unfold maxLen; omega
    have hby0 : (0 + q.length) * 16 ≤ 140737488355328 := by omega
    have hmx : q.length + 1 ≤ maxLen := by unfold maxLen; omega
    have hby : (q.length + 1) * 16 ≤ 140737488355328 := by omega
    have hnews : Hid (∀ (j : Nat) (u : Value), (q.map strV)[j]? = some u → (w.alloc (.cells #[] 9)).cell? (ad.add j) = some u) := by
      intro j u hu
      have h9 := HO.out.cells1 j u hu
      rw [World.cell?_alloc_lt _ _ _ (World.block_lt_of_cell? w _ h9)]
      exact h9
    have hlenq : Hid ((q.map strV).length = q.length * 1) := by show _ = _; simp
    have hsz1 : Hid (w.heap.size ≤ (w.alloc (.cells #[] 9)).heap.size) := by show _ ≤ _; simp
    go_wp2_with (first
      | (at_builtin; refine wpList_append_own _ rfl (.tmp 24) (.tmp 28) 49 rfl w.heap.size 9 i0 (.string ⟨#[]⟩) 1 16 Try.underlying49 hi hz0 hz1 hz2 rfl (by decide) (.slice (some ⟨w.heap.size, 0, none⟩) 0 0) 0 [] rfl HM.out ad q.length c' (q.map strV) rfl ?_ ?_ ?_ ?_ ?_ ?_ ?_
         exact hlenq.out
         exact hnews.out
         exact hones.out
         exact hmx0
         exact hby0
         exact hsz1.out
         intro v2 w2 ho2 hg2 _
         simp only [Nat.zero_add, List.nil_append] at ho2
         obtain ⟨A2, c2, rfl⟩ := own_slice ho2
         have HX2 := Lib.hid (blk_grown (blk_alloc H.out _) hg2 (fun e9 => by simp [Value.ownBlock] at e9; omega))
         have hb2 : Below w.heap.size w w2 := ((Below.refl _ _).alloc (Nat.le_refl _) _).grown hg2 hsz1.out (by rintro k2 e2; cases e2; exact Nat.le_refl _)
         have hsz : Hid (w.heap.size ≤ (w2.alloc (.cells #[strV b] 9)).heap.size) := by show _ ≤ _; have := hb2.size; simp; omega
         have HNE : Hid (some g ≠ (Value.slice A2 q.length c2).ownBlock) := fun e9 => by have := (own_lt ho2 g e9.symm).1; omega
         have HO2 := Lib.hid ho2
         have HB2 := Lib.hid hb2
         clear ho2 hb2 hg2)
      | (at_builtin; refine wpList_append_own _ rfl (.tmp 29) (.tmp 31) 49 rfl w.heap.size 9 i0 (.string ⟨#[]⟩) 1 16 Try.underlying49 hi hz0 hz1 hz2 rfl (by decide) (.slice A2 q.length c2) q.length (q.map strV) rfl ?_ ⟨w2.heap.size, 0, none⟩ 1 1 [strV b] rfl rfl ?_ ?_ ?_ ?_ ?_ ?_
         exact own_below HO2.out ((Below.refl _ _).alloc (Nat.le_refl _) _)
         exact news_one (blk_new _ _)
         exact hone.out
         exact hmx
         exact hby
         exact hsz.out
         intro v3 w3 ho3 hg3 _
         obtain ⟨A3, c3, rfl⟩ := own_slice ho3
         have hx3 := blk_grown (blk_alloc HX2.out _) hg3 HNE.out
         have q7 := blk_cell hx3 7
         have qf := blk_frozen hx3 7
         simp at q7
         have HO3 := Lib.hid ho3
         have HG3 := Lib.hid hg3
         clear hx3 ho3 hg3))
    go_ret
    exact ⟨rfl, HFIN.out w2 w3 _ _ HO2.out HB2.out HO3.out HG3.out⟩

theorem refm_send (w : World) (B g : Nat) (M M' : MS) (b : List UInt8) (n : Int) (h : RefMAt w B g M) (hF : M.sendF b = (n, M')) :
    Calls Try.prog 19 #[.pointer (some ⟨g, 0, none⟩), .string ⟨b.toArray⟩] w fun e w' => e = .returned (.int .i64 n) ∧ w.grownBy w' (some g) ∧ RefMAt w' B g M' := by
  have hok := h.ok.send hF
  obtain ⟨v, hg, hq⟩ := h.ex
  unfold MS.sendF at hF
  split at hF
  · rename_i hl
    cases hF
    refine (refm_send_no w g b hl).mono ?_
    rintro e w' ⟨rfl, rfl⟩
    exact ⟨rfl, grown_refl _ _, h⟩
  · rename_i hl
    split at hF
    · rename_i hst
      cases hF
      refine (refm_send_state w g M.state b (by omega) (by omega) (blk_cell hg 3) hst).mono ?_
      rintro e w' ⟨rfl, rfl⟩
      exact ⟨rfl, grown_refl _ _, h⟩
    · rename_i hst
      have hst1 : M.state = 1 := by by_cases e : M.state = 1; exact e; exact absurd e hst
      split at hF
      · rename_i hq8
        cases hF
        obtain ⟨A', c', rfl⟩ := hq.slice
        refine (refm_send_full w g M.queue.length c' A' b (by omega) (by omega) (by have := blk_cell hg 3; rw [hst1] at this; exact this) (blk_cell hg 7) hq8).mono ?_
        rintro e w' ⟨rfl, rfl⟩
        exact ⟨rfl, grown_refl _ _, h⟩
      · rename_i hq8
        cases hF
        rw [hst1] at hg
        refine (refm_send_ok w B g _ _ _ _ _ _ _ v M.queue b (by omega) (by omega) (by omega) h.ge hq hg).mono ?_
        rintro e w' ⟨rfl, hgr, v2, hg2, ho2⟩
        rw [← hst1] at hg2
        exact ⟨rfl, hgr, h.ge, hok, v2, hg2, by simpa using ho2⟩
end Go.Proofs.Ytdgbmiobfehpdaa
