/- The line: what the master says goes onto the wire down. -/
import Derived.Test.YtmhdckpmkgkglaaNb
set_option linter.unusedVariables false
set_option linter.unusedSimpArgs false
namespace Go.Proofs.Ytmhdckpmkgkglaa
open Go.RowKit

theorem Try.info29 : (Try.prog.info? 29).map (fun i => (i.zero, i.size, i.bytes)) = some (some (.agg #[.int .u8 0, .int .u8 0, .int .u8 0, .int .u8 0, .int .u8 0, .slice none 0 0]), 6, 32) := by kernel_rfl
theorem cells_six {w : World} {t : Nat} {u0 u1 u2 u3 u4 u5 : Value} {fr : Nat × Nat} (b : Nat) (h : w.heap[b]? = some (.cells #[u0, u1, u2, u3, u4, u5] t fr)) : ∀ (j : Nat) (u : Value), [u0, u1, u2, u3, u4, u5][j]? = some u → w.cell? ((⟨b, 0, none⟩ : Addr).add j) = some u := by
  intro j u hu
  have e : (⟨b, 0, none⟩ : Addr).add j = ⟨b, j, none⟩ := by unfold Addr.add; split <;> simp_all
  rw [e, blk_cell h j]
  simpa using hu
section
variable {w W1 w3 : World} {B B' x gm gs : Nat} {vd vu v3 u : Value} {ds us : List (FR × Value)} {L : LS} {f : FR}
theorem LineIn.pushD (h : LineIn w B x gm gs vd vu ds us L) (hb : Below w.heap.size w W1) (hu : W1.ownsRow B' 5 1 u f.b.length (bytesV f.b)) (hB : B ≤ B') (g : W1.grownBy w3 vd.ownBlock)
    (ho : OffRow w3 B 29 6 v3 (ds.length + 1) (cells6 ds ++ [.int .u8 f.addr, .int .u8 f.kind, .int .u8 f.sess, .int .u8 f.seq, .int .u8 f.ack, u])) (hn : v3.ownBlock = vd.ownBlock ∨ v3.ownBlock = some W1.heap.size) :
    Kept B [29, 63] w (w3.setCell ⟨x, 2, none⟩ v3) ∧ LineIn (w3.setCell ⟨x, 2, none⟩ v3) B x gm gs v3 vu (ds ++ [(f, u)]) us { L with down := L.down ++ [f] } := by
  have h1 := h.below hb
  have k1 : Kept B [29] W1 w3 := Kept.of_row g h1.d.row (by simp)
  have hx3 := k1.blk h1.blk (by decide)
  have k2 : Kept B [63] w3 (w3.setCell ⟨x, 2, none⟩ v3) := Kept.of_grown (grown_set (grown_refl _ _) _ _) hx3 (by simp) h.ge
  have hblk := blk_set hx3 2 v3
  refine ⟨((Kept.of_below hb).trans (k1.mono (by simp))).trans (k2.mono (by simp)), h.ge, by simpa using hblk, (h1.m.kept k1 (by decide) (by decide) (by decide)).kept k2 (by decide) (by decide) (by decide), (h1.s.kept k1 (by decide) (by decide)).kept k2 (by decide) (by decide), ?_, (h1.u.other g h1.d.row fun k hk e => h1.dj k e hk).kept k2 (by decide) (by decide), by simp [h.de], h.ue, ?_⟩
  · refine WireIn.kept ⟨?_, fun p hp => ?_⟩ k2 (by decide) (by decide)
    · rw [cells6_app, List.length_append]
      exact ho
    · rcases List.mem_append.1 hp with hp | hp
      · exact k1.own (by decide) (h1.d.bs p hp)
      · simp at hp
        subst hp
        exact k1.own (by decide) (own_lower hu hB)
  · intro k hk
    rcases hn with hn | hn
    · exact h.dj k (hn ▸ hk)
    · rw [hn] at hk
      cases hk
      intro e
      have := h1.u.lt _ e
      omega
theorem LineIn.pushU (h : LineIn w B x gm gs vd vu ds us L) (hb : Below w.heap.size w W1) (hu : W1.ownsRow B' 5 1 u f.b.length (bytesV f.b)) (hB : B ≤ B') (g : W1.grownBy w3 vu.ownBlock)
    (ho : OffRow w3 B 29 6 v3 (us.length + 1) (cells6 us ++ [.int .u8 f.addr, .int .u8 f.kind, .int .u8 f.sess, .int .u8 f.seq, .int .u8 f.ack, u])) (hn : v3.ownBlock = vu.ownBlock ∨ v3.ownBlock = some W1.heap.size) :
    Kept B [29, 63] w (w3.setCell ⟨x, 3, none⟩ v3) ∧ LineIn (w3.setCell ⟨x, 3, none⟩ v3) B x gm gs vd v3 ds (us ++ [(f, u)]) { L with up := L.up ++ [f] } := by
  have h1 := h.below hb
  have k1 : Kept B [29] W1 w3 := Kept.of_row g h1.u.row (by simp)
  have hx3 := k1.blk h1.blk (by decide)
  have k2 : Kept B [63] w3 (w3.setCell ⟨x, 3, none⟩ v3) := Kept.of_grown (grown_set (grown_refl _ _) _ _) hx3 (by simp) h.ge
  have hblk := blk_set hx3 3 v3
  refine ⟨((Kept.of_below hb).trans (k1.mono (by simp))).trans (k2.mono (by simp)), h.ge, by simpa using hblk, (h1.m.kept k1 (by decide) (by decide) (by decide)).kept k2 (by decide) (by decide) (by decide), (h1.s.kept k1 (by decide) (by decide)).kept k2 (by decide) (by decide), (h1.d.other g h1.u.row h1.dj).kept k2 (by decide) (by decide), ?_, h.de, by simp [h.ue], ?_⟩
  · refine WireIn.kept ⟨?_, fun p hp => ?_⟩ k2 (by decide) (by decide)
    · rw [cells6_app, List.length_append]
      exact ho
    · rcases List.mem_append.1 hp with hp | hp
      · exact k1.own (by decide) (h1.u.bs p hp)
      · simp at hp
        subst hp
        exact k1.own (by decide) (own_lower hu hB)
  · intro k hk e
    rcases hn with hn | hn
    · exact h.dj k hk (hn ▸ e)
    · rw [hn] at e
      cases e
      have := h1.d.lt _ hk
      omega
theorem LineIn.dlen (h : LineIn w B x gm gs vd vu ds us L) : ds.length = L.down.length := by rw [← h.de, List.length_map]
theorem LineIn.ulen (h : LineIn w B x gm gs vd vu ds us L) : us.length = L.up.length := by rw [← h.ue, List.length_map]
end

set_option maxHeartbeats 4000000 in
set_option maxRecDepth 100000 in
theorem does_2 (w : World) (B x gm gs : Nat) (L : LS) (k : Int) (hk : k = 2 ∨ k = 3) (h : LineAt w B x gm gs L) (h20 : L.down.length ≤ 20) :
    Calls Try.prog 22 #[.pointer (some ⟨x, 0, none⟩), .agg #[.int .i64 k]] w (DoesEnd w B x gm gs true L.nextF) := by
  obtain ⟨vd, vu, ds, us, hl⟩ := h
  obtain ⟨Ad, cd, rfl⟩ := hl.d.row.slice
  obtain ⟨Au, cu, rfl⟩ := hl.u.row.slice
  obtain ⟨i0, hi, hz0, hz1, hz2⟩ := info_parts Try.info29
  have hal : Below w.heap.size w (w.alloc (.cells #[.int .i64 k] 59)) := (Below.refl _ _).alloc (Nat.le_refl _) _
  have HAL := Lib.hid hal
  have HL := Lib.hid (hl.below hal)
  have x0 := blk_cell (hl.below hal).blk 0
  have x2 := blk_cell (hl.below hal).blk 2
  simp at x0 x2
  have hxl := hl.lt
  have hge := hl.ge
  have hdl := hl.dlen
  have HDL := Lib.hid hdl
  have h20' : ds.length ≤ 20 := by omega
  have hb0 := blk_cell (blk_new w (.cells #[.int .i64 k] 59)) 0
  have H20 := Lib.hid h20
  clear hal hl hdl h20 hb0
  go_enter Try.func22, Try.ntmps22
  go_upto_if 54 with fail
  go_cut [54] (fun v w' => v = .bool true ∧ w' = w.alloc (.cells #[.int .i64 k] 59))
  case first =>
    rcases hk with rfl | rfl
    · go_wp2_with fail
      go_meet
      case rel => exact ⟨rfl, rfl⟩
    · go_wp2_with fail
      go_meet
      case rel => exact ⟨rfl, rfl⟩
  case rest =>
  obtain ⟨rfl, rfl⟩ := hcut
  by_cases hlt : ds.length < 20
  · have hnl : L.nextF = { L with down := L.down ++ [L.M.nextF] } := by unfold LS.nextF; rw [if_pos (by have := HDL.out; omega)]
    have HNL := Lib.hid hnl
    have hltd : decide ((ds.length : Int) < 20) = true := by simp; omega
    obtain ⟨F, hF⟩ : ∃ F, F = L.M.nextF := ⟨_, rfl⟩
    have hnx := HL.out.m
    have hmn : ∀ W, MasterAt W B gm L.M → Calls Try.prog 26 #[.pointer (some ⟨gm, 0, none⟩)] W fun e w' => ∃ v1, e = .returned (.agg #[.int .u8 F.addr, .int .u8 F.kind, .int .u8 F.sess, .int .u8 F.seq, .int .u8 F.ack, v1]) ∧ w'.ownsRow W.heap.size 5 1 v1 F.b.length (bytesV F.b) ∧ Below W.heap.size W w' := by
      intro W hW
      rw [hF]
      exact master_next W B gm L.M hW
    have HMN := Lib.hid hmn
    rw [← hF] at HNL
    have HBW : Hid (B ≤ (w.alloc (.cells #[.int .i64 k] 59)).heap.size) := by show B ≤ _; simp; omega
    clear hnl hnx hmn hF hlt
    go_upto_region 11 with fail
    go_region_law
      ((first
        | (go_simp; go_at_call 26; refine (HMN.out _ ?_).mono ?_; (first | exact HL.out.m | exact HL.out.m.below (drew_below _)); rintro e w1 ⟨v1, rfl, hown, hb0⟩; obtain ⟨A1, c1, rfl⟩ := own_slice hown; have hb : Below (w.alloc (.cells #[.int .i64 k] 59)).heap.size (w.alloc (.cells #[.int .i64 k] 59)) w1 := (by first | exact hb0 | exact (drew_below _).trans hb0); have HB := Lib.hid hb; have HO1 := Lib.hid hown; have HL1 := Lib.hid (HL.out.below hb); have y2 := blk_cell HL1.out.blk 2; simp at y2; have y2a : ∀ o, (w1.alloc o).cell? ⟨x, 2, none⟩ = some (.slice Ad ds.length cd) := fun o => blk_cell (blk_alloc HL1.out.blk o) 2; clear hown hb hb0)
        | (refine step_append_off2 ?_ (.tmp 67) (.tmp 73) 61 ?_ B 29 i0 (.agg #[.int .u8 0, .int .u8 0, .int .u8 0, .int .u8 0, .int .u8 0, .slice none 0 0]) 6 32 Try.underlying61 hi hz0 hz1 hz2 ?_ ?_ (.slice Ad ds.length cd) ds.length (cells6 ds) ?_ ?_ ⟨w1.heap.size, 0, none⟩ 1 1 [.int .u8 F.addr, .int .u8 F.kind, .int .u8 F.sess, .int .u8 F.seq, .int .u8 F.ack, .slice A1 F.b.length c1] ?_ ?_ ?_ ?_ ?_ ?_ ?_ ?_ ?_
           · rfl
           · rfl
           · rfl
           · decide
           · rfl
           · exact HL1.out.d.row.below ((Below.refl _ _).alloc (Nat.le_refl _) _)
           · rfl
           · rfl
           · exact cells_six _ (blk_new _ _)
           · simp [Value.oneCell']
           · (unfold maxLen; omega)
           · omega
           · exact Nat.le_trans hge (by have := HL1.out.lt; simp; omega)
           · decide
           intro v2 w2 ho2 hg2 hn2
           have hba : Below w1.heap.size w1 (w1.alloc (.cells #[.int .u8 F.addr, .int .u8 F.kind, .int .u8 F.sess, .int .u8 F.seq, .int .u8 F.ack, .slice A1 F.b.length c1] 29)) := (Below.refl _ _).alloc (Nat.le_refl _) _
           have hpp := HL1.out.pushD (f := F) (u := .slice A1 F.b.length c1) hba (own_below HO1.out hba) (by exact HBW.out) hg2 ho2 hn2
           have hh2 := blk_grown (blk_below' HL1.out.blk hba) hg2 (fun e => by have := HL1.out.d.row.ne HL1.out.blk (by decide) x e.symm; omega)
           have hfz := blk_frozen hh2 2
           have h2c := blk_cell hh2 2
           simp at h2c
           obtain ⟨A2, c2, rfl⟩ := ho2.slice
           have HPP := Lib.hid hpp
           clear ho2 hg2 hn2 hba hpp hh2)))
    all_goals
      go_wp2_with fail
      go_ret
      refine ⟨rfl, (Kept.of_below (HAL.out.trans (HB.out.mono HAL.out.size))).trans (HPP.out.1.mono (by simp)), ?_⟩
      rw [HNL.out]
      exact ⟨_, _, _, _, HPP.out.2⟩
  · have hnl : L.nextF = L := by unfold LS.nextF; rw [if_neg (by have := HDL.out; omega)]
    have HNL := Lib.hid hnl
    clear hnl
    go_wp2_with fail
    go_ret
    refine ⟨rfl, Kept.of_below HAL.out, ?_⟩
    rw [HNL.out]
    exact ⟨_, _, _, _, HL.out⟩
end Go.Proofs.Ytmhdckpmkgkglaa
