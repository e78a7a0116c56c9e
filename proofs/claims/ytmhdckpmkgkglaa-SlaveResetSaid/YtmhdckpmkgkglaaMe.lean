/- Master.Send. -/
import Derived.Test.YtmhdckpmkgkglaaMd
import Derived.Outline
set_option linter.unusedVariables false
set_option linter.unusedSimpArgs false
namespace Go.Proofs.Ytmhdckpmkgkglaa
open Go.RowKit

theorem Try.infoSl : (Try.prog.info? 22).map (fun i => (i.zero, i.size, i.bytes)) = some (some (.slice none 0 0), 1, 24) := by kernel_rfl

set_option maxHeartbeats 2000000 in
theorem send_no (w : World) (g : Nat) (bv : Value) (l : List UInt8) (h : ReadsB w bv l) (hl : l = [] ∨ 24 < l.length) :
    Calls Try.prog 33 #[.pointer (some ⟨g, 0, none⟩), bv] w fun e w' => e = .returned (.int .i64 1) ∧ w = w' := by
  obtain ⟨A, c, rfl, hlc, hl2, hnil, hcell⟩ := h
  clear hcell hnil
  rcases hl with rfl | hl
  · go_enter Try.func33, Try.ntmps33
    go_wp2
    go_ret
    exact ⟨rfl, rfl⟩
  · have k1 : ((l.length : Int) == 0) = false := by simp; intro h; simp [h] at hl
    have k2 : decide (24 < l.length) = true := by simpa using hl
    go_enter Try.func33, Try.ntmps33
    go_wp2
    go_ret
    exact ⟨rfl, rfl⟩

set_option maxHeartbeats 2000000 in
theorem send_state (w : World) (g : Nat) (st : Int) (bv : Value) (l : List UInt8) (h : ReadsB w bv l) (hl : 0 < l.length) (hl2 : l.length ≤ 24)
    (h5 : w.cell? ⟨g, 5, none⟩ = some (.int .i64 st)) (hn : st ≠ 1) :
    Calls Try.prog 33 #[.pointer (some ⟨g, 0, none⟩), bv] w fun e w' => e = .returned (.int .i64 7) ∧ w = w' := by
  obtain ⟨A, c, rfl, hlc, hl3, hnil, hcell⟩ := h
  clear hcell hnil
  have k1 : ((l.length : Int) == 0) = false := by simp; intro h; simp [h] at hl
  have k2 : decide (24 < l.length) = false := by simp; omega
  have k3 : (st != 1) = true := by simpa using hn
  go_enter Try.func33, Try.ntmps33
  go_wp2
  go_ret
  exact ⟨rfl, rfl⟩

set_option maxHeartbeats 2000000 in
theorem send_full (w : World) (g : Nat) (n' c' : Nat) (A' : Option Addr) (bv : Value) (l : List UInt8) (h : ReadsB w bv l) (hl : 0 < l.length) (hl2 : l.length ≤ 24)
    (h5 : w.cell? ⟨g, 5, none⟩ = some (.int .i64 1)) (h7 : w.cell? ⟨g, 7, none⟩ = some (.slice A' n' c')) (hn : 8 ≤ n') :
    Calls Try.prog 33 #[.pointer (some ⟨g, 0, none⟩), bv] w fun e w' => e = .returned (.int .i64 5) ∧ w = w' := by
  obtain ⟨A, c, rfl, hlc, hl3, hnil, hcell⟩ := h
  clear hcell hnil
  have k1 : ((l.length : Int) == 0) = false := by simp; intro h; simp [h] at hl
  have k2 : decide (24 < l.length) = false := by simp; omega
  have k3 : decide ((n' : Int) < 8) = false := by simp; omega
  have k4 : decide (8 ≤ n') = true := by simpa using hn
  go_enter Try.func33, Try.ntmps33
  go_wp2
  go_ret
  exact ⟨rfl, rfl⟩

theorem Kept.of_row {B n size : Nat} {e : TypeId} {v : Value} {xs : List Value} {ts : List TypeId} {w w1 : World} (h : w.grownBy w1 v.ownBlock) (ho : OffRow w B e size v n xs) (he : e ∈ ts) : Kept B ts w w1 :=
  ⟨h.os, h.tape, h.output, h.size, fun k hk hc => h.block k hk (fun e1 => by
    rcases ho.2 with ⟨rfl, _⟩ | ⟨g', o, cap, cur, rfl, hb, hh, _⟩
    · simp [Value.ownBlock] at e1
    · simp [Value.ownBlock] at e1
      subst e1
      rcases hc with hc | ⟨cs', t', fr', hc, ht'⟩
      · omega
      · rw [hh] at hc
        cases hc
        exact ht' he)⟩
theorem send_close {w w1 w2 : World} {B g : Nat} {M : MS} {l : List UInt8} {A' A1 A2 : Option Addr} {c' c1 c2 : Nat} {vs : List Value} {B' : Nat}
    (HM : MasterAt w B g M) (hst : M.state = 1) (hl : 0 < l.length ∧ l.length ≤ 24) (hq : M.queue.length < 8) (hvl : vs.length = M.queue.length)
    (HG : w.heap[g]? = some (.cells #[.int .u8 M.sends, .int .u8 M.hears, .int .u8 M.addr, .int .u8 M.num, .int .i64 M.tries, .int .i64 1, .int .i64 M.epoch, .slice A' M.queue.length c', .int .i64 M.misses] 77 (0, 0)))
    (HRows : ∀ (i : Nat) (u : Value) (b : List UInt8), vs[i]? = some u → M.queue[i]? = some b → w.ownsRow B 5 1 u b.length (bytesV b))
    (hb : Below w.heap.size w w1) (hB' : B ≤ B') (hown : w1.ownsRow B' 5 1 (.slice A1 l.length c1) l.length (bytesV l))
    (HO1 : OffRow w1 B 22 1 (.slice A' M.queue.length c') M.queue.length vs)
    (hg2 : (w1.alloc (.cells #[.slice A1 l.length c1] 22)).grownBy w2 (Value.slice A' M.queue.length c').ownBlock)
    (HO2 : OffRow w2 B 22 1 (.slice A2 (M.queue.length + 1) c2) (M.queue.length + 1) (vs ++ [.slice A1 l.length c1]))
    (HH2 : w2.heap[g]? = some (.cells #[.int .u8 M.sends, .int .u8 M.hears, .int .u8 M.addr, .int .u8 M.num, .int .i64 M.tries, .int .i64 1, .int .i64 M.epoch, .slice A' M.queue.length c', .int .i64 M.misses] 77 (0, 0))) :
    Kept B [77, 22] w (w2.setCell ⟨g, 7, none⟩ (.slice A2 (M.queue.length + 1) c2)) ∧ MasterAt (w2.setCell ⟨g, 7, none⟩ (.slice A2 (M.queue.length + 1) c2)) B g { M with queue := M.queue ++ [l] } := by
  have hBg := HM.ge
  have k1 : Kept B [22] w w2 := ((Kept.of_below hb).trans (Kept.of_below ((Below.refl _ _).alloc (Nat.le_refl _) _))).trans (Kept.of_row hg2 (HO1.below ((Below.refl _ _).alloc (Nat.le_refl _) _)) (by simp))
  have gs : w2.grownBy (w2.setCell ⟨g, 7, none⟩ (.slice A2 (M.queue.length + 1) c2)) (some g) := grown_set (grown_refl _ _) _ _
  have k2 : Kept B [77] w2 (w2.setCell ⟨g, 7, none⟩ (.slice A2 (M.queue.length + 1) c2)) := Kept.of_grown gs HH2 (by simp) hBg
  refine ⟨(k1.mono (by simp)).trans (k2.mono (by simp)), hBg, (HM.ok.send (b := l) (n := 0) (by unfold MS.sendF; rw [if_neg (by omega), if_neg (by omega), if_neg (by omega)])), .slice A2 (M.queue.length + 1) c2, ?_, ?_⟩
  · have := blk_set HH2 7 (.slice A2 (M.queue.length + 1) c2)
    simp only [hst]
    exact this
  · have hlen : (M.queue ++ [l]).length = M.queue.length + 1 := by simp
    have hq2 : QueueAt w2 B (.slice A2 (M.queue.length + 1) c2) (M.queue ++ [l]) := by
      refine ⟨vs ++ [.slice A1 l.length c1], by simp [hvl], by rw [hlen]; exact HO2, fun i u b hu hb' => ?_⟩
      by_cases hi : i < M.queue.length
      · rw [List.getElem?_append_left (by omega)] at hu
        rw [List.getElem?_append_left hi] at hb'
        have h0 := HRows i u b hu hb'
        refine own_keep h0 fun k hk => ?_
        rcases h0.2 with ⟨rfl, _⟩ | ⟨g', cap, cur, rfl, _, hh, _⟩
        · simp [Value.ownBlock] at hk
        · simp [Value.ownBlock] at hk
          subst hk
          exact k1.block _ (blk_lt hh) (.inr ⟨_, _, _, hh, by decide⟩)
      · have hi' : i = M.queue.length := by
          have := (List.getElem?_eq_some_iff.1 hb').1
          simp at this
          omega
        subst hi'
        rw [List.getElem?_append_right (by omega)] at hu
        rw [List.getElem?_append_right (by omega)] at hb'
        simp [hvl] at hu hb'
        subst hu
        subst hb'
        refine own_lower (own_keep (own_below hown ((Below.refl _ _).alloc (Nat.le_refl _) (.cells #[.slice A1 l.length c1] 22))) fun k hk => ?_) hB'
        refine hg2.block k (own_lt (own_below hown ((Below.refl _ _).alloc (Nat.le_refl _) _)) k hk).2 fun e => ?_
        have h5 := own_ty hown k hk
        obtain ⟨cs5, fr5, h5⟩ := h5
        exact HO1.ne h5 (by decide) k e.symm rfl
    exact hq2.kept k2 (by decide) (by decide)

set_option maxHeartbeats 4000000 in
theorem send_ok (w : World) (B g : Nat) (M : MS) (bv : Value) (l : List UInt8) (h : ReadsB w bv l) (hl : 0 < l.length) (hl2 : l.length ≤ 24)
    (hm : MasterAt w B g M) (hst : M.state = 1) (hq : M.queue.length < 8) :
    Calls Try.prog 33 #[.pointer (some ⟨g, 0, none⟩), bv] w fun e w' => e = .returned (.int .i64 0) ∧ Kept B [77, 22] w w' ∧
      MasterAt w' B g { M with queue := M.queue ++ [l] } := by
  have HR := Lib.hid h
  obtain ⟨A, c, rfl, hlc, hl3, hnil, hcell⟩ := h
  clear hcell hnil
  have k1 : ((l.length : Int) == 0) = false := by simp; intro h; simp [h] at hl
  have k2 : decide (24 < l.length) = false := by simp; omega
  obtain ⟨v, hg, vs, hvl, hoff, hrows⟩ := hm.ex
  have HM := Lib.hid hm
  obtain ⟨A', c', rfl⟩ : ∃ A c, v = .slice A M.queue.length c := by
    rcases hoff.2 with ⟨rfl, h0⟩ | ⟨_, _, cap, _, rfl, _⟩
    · exact ⟨none, 0, by rw [h0]⟩
    · exact ⟨_, cap, rfl⟩
  have k3 : decide ((M.queue.length : Int) < 8) = true := by simp; omega
  have k4 : decide (8 ≤ M.queue.length) = false := by simp; omega
  have HST := Lib.hid hst
  rw [hst] at hg
  obtain ⟨h0, h1, h2, h3, h4, h5, h6, h7, h8⟩ := blk9 hg
  have f7 := blk_frozen hg 7
  have hglt := blk_lt hg
  have hBw : B ≤ w.heap.size := by have := hm.ge; omega
  have hne2 : some g ≠ (Value.slice A' M.queue.length c').ownBlock := fun e => by have := hoff.ne hg (by decide) g e.symm; omega
  obtain ⟨i0, hi, hz0, hz1, hz2⟩ := info_parts Try.infoSl
  have HG := Lib.hid hg
  have HO := Lib.hid hoff
  have HRows := Lib.hid hrows
  clear hg hoff hrows hm hst
  go_enter Try.func33, Try.ntmps33
  go_wp2_with fail
  go_region_law
    ((first
      | (go_simp; go_at_call 28; refine (clone_any _ (.slice A l.length c) l ?_).mono ?_; (first | exact HR.out | exact HR.out.below ((Below.refl _ _).drew)); rintro e w1 ⟨v1, rfl, hown, hb0⟩; obtain ⟨A1, c1, rfl⟩ := own_slice hown; have hb : Below w.heap.size w w1 := (by first | exact hb0 | exact ((Below.refl _ _).drew).trans hb0); have HO1 := Lib.hid (HO.out.below hb); have h7x := blk_cell (blk_below' HG.out hb) 7; simp at h7x; have h7y : ∀ o, (w1.alloc o).cell? ⟨g, 7, none⟩ = some (.slice A' M.queue.length c') := fun o => blk_cell (blk_alloc (blk_below' HG.out hb) o) 7)
      | (refine step_append_off ?_ (.tmp 31) (.tmp 34) 75 ?_ B 22 i0 (.slice none 0 0) 1 24 Try.underlying75 hi hz0 hz1 hz2 ?_ ?_ (.slice A' M.queue.length c') M.queue.length vs ?_ ?_ ⟨w1.heap.size, 0, none⟩ 1 1 [.slice A1 l.length c1] ?_ ?_ ?_ ?_ ?_ ?_ ?_ ?_ ?_
         · rfl
         · rfl
         · rfl
         · decide
         · rfl
         · exact HO1.out.below ((Below.refl _ _).alloc (Nat.le_refl _) _)
         · rfl
         · rfl
         · exact news_one (blk_new _ _)
         · simp [Value.oneCell']
         · (unfold maxLen; omega)
         · omega
         · exact Nat.le_trans hBw (Nat.le_trans hb.size (by simp))
         · decide
         intro v2 w2 ho2 hg2
         have hh2 := blk_grown (blk_alloc (blk_below' HG.out hb) _) hg2 hne2
         obtain ⟨A2, c2, rfl⟩ := ho2.slice
         have HO2 := Lib.hid ho2
         have h7' := blk_cell hh2 7
         have f7' := blk_frozen hh2 7
         simp at h7'
         have HH2 := Lib.hid hh2
         clear ho2 hh2)))
  all_goals
    go_wp2
    go_ret
    exact ⟨rfl, send_close HM.out HST.out ⟨hl, hl2⟩ hq hvl HG.out HRows.out hb hBw hown HO1.out hg2 HO2.out HH2.out⟩
end Go.Proofs.Ytmhdckpmkgkglaa
