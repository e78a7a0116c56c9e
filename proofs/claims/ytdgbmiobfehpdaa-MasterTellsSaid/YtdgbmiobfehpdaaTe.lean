/- The walk of lamplightlaw07.MasterTells. -/
import Derived.Test.YtdgbmiobfehpdaaRd
import Derived.Test.YtdgbmiobfehpdaaSr
import Derived.Test.YtdgbmiobfehpdaaAr
set_option linter.unusedVariables false
set_option linter.unusedSimpArgs false
namespace Go.Proofs.Ytdgbmiobfehpdaa
open Go.RowKit

theorem heard_len {M M1 : MS} {f : FR} {b : List UInt8} {ok : Bool} (h : M.heardF f = (b, ok, M1)) : b.length ≤ f.b.length := by
  unfold MS.heardF at h
  split at h
  · cases h; simp
  · split at h
    · split at h
      · cases h; simp
      · cases h; simp
    · split at h
      · cases h; simp
      · split at h
        · cases h; simp
        · cases h
          unfold MS.replyF
          split <;> simp
def TelR (w wr : World) (G h : Nat) (a0 : Int) (k : Nat) : Prop :=
  Below w.heap.size w wr ∧ ∃ M : MS, MasterAt wr G G M ∧ RefMAt wr h h M ∧ M.addr = a0 ∧ 0 ≤ M.epoch ∧ M.epoch ≤ k
def TelH (w : World) (G h : Nat) (M : MS) (v : Value) (w' : World) : Prop :=
  Below w.heap.size w w' ∧ MasterAt w' G G M ∧ RefMAt w' h h M ∧ w'.heap[h]? = some (.cells #[.int .u8 M.addr, .int .u8 M.num, .int .i64 M.tries, .int .i64 M.state, .int .i64 M.epoch, .int .u8 M.sends, .int .u8 M.hears, v, .int .i64 M.misses] 51 (0, 0))
theorem tel_all {w : World} {G h : Nat} {M : MS} {v : Value} {w' : World} (t : TelH w G h M v w') : TelH w G h M v w' ∧ w'.cell? ⟨h, 3, none⟩ = some (.int .i64 M.state) ∧ w'.cell? ⟨h, 4, none⟩ = some (.int .i64 M.epoch) ∧ w'.cell? ⟨h, 7, none⟩ = some v :=
  ⟨t, blk_cell t.2.2.2 3, blk_cell t.2.2.2 4, blk_cell t.2.2.2 7⟩
theorem tel_below {w : World} {G h : Nat} {M : MS} {v : Value} {w' w2 : World} (t : TelH w G h M v w') (hk : Below w'.heap.size w' w2) : TelH w G h M v w2 :=
  ⟨t.1.trans (hk.mono t.1.size), t.2.1.below hk, t.2.2.1.below hk, blk_below' t.2.2.2 hk⟩
theorem tel_step {w : World} {G h : Nat} {M : MS} {v : Value} {w' w2 : World} {X : Prop} (t : TelH w G h M v w' ∧ X) (hk : Below w'.heap.size w' w2) : TelH w G h M v w2 ∧ w2.cell? ⟨h, 3, none⟩ = some (.int .i64 M.state) ∧ w2.cell? ⟨h, 4, none⟩ = some (.int .i64 M.epoch) ∧ w2.cell? ⟨h, 7, none⟩ = some v :=
  tel_all (tel_below t.1 hk)
/-- A master's call leaves the reference; the reference's leaves the master. -/
theorem ref_keptM {w w1 : World} {G h : Nat} {M : MS} (hr : RefMAt w h h M) (hk : Kept G [62, 26] w w1) : RefMAt w1 h h M := hr.kept hk (by decide) (by decide)
theorem master_keptR {w w1 : World} {G h : Nat} {M M' : MS} (hm : MasterAt w G G M) (hr : RefMAt w h h M') (hgr : w.grownBy w1 (some h)) (hG : G ≤ h) : MasterAt w1 G G M := by
  obtain ⟨v, hg, _⟩ := hr.ex
  exact hm.kept (Kept.of_grown (ts := [51]) hgr hg (by simp) hG) (by decide) (by decide) (by decide)
def BoxH (w : World) (bx : Nat) (c0 c1 c2 c3 c4 : Int) (A : Option Addr) (m cp : Nat) (w' : World) : Prop :=
  Below w.heap.size w w' ∧ w'.heap[bx]? = some (.cells #[.int .u8 c0, .int .u8 c1, .int .u8 c2, .int .u8 c3, .int .u8 c4, .slice A m cp] 30 (0, 0))
theorem boxh_all {w : World} {bx : Nat} {c0 c1 c2 c3 c4 : Int} {A : Option Addr} {m cp : Nat} {bl : List UInt8} {w' : World} (h : BoxH w bx c0 c1 c2 c3 c4 A m cp w') (hr : ReadsB w (.slice A m cp) bl) :
    BoxH w bx c0 c1 c2 c3 c4 A m cp w' ∧ w'.cell? ⟨bx, 5, none⟩ = some (.slice A m cp) ∧ (convert 26 9 (.slice A m cp)).run Try.prog w' = .ok (.string ⟨bl.toArray⟩) w' :=
  ⟨h, blk_cell h.2 5, conv_bytes _ _ bl (hr.below h.1)⟩
theorem boxh_kept {w : World} {bx G : Nat} {c0 c1 c2 c3 c4 : Int} {A : Option Addr} {m cp : Nat} {w' w2 : World} (h : BoxH w bx c0 c1 c2 c3 c4 A m cp w') (hk : Kept G [62, 26] w' w2) (hG : w.heap.size ≤ G) : BoxH w bx c0 c1 c2 c3 c4 A m cp w2 :=
  ⟨stepK h.1 h.1.size (Below.refl _ _) hk hG, hk.blk h.2 (by decide)⟩
theorem boxh_grown {w : World} {bx g : Nat} {c0 c1 c2 c3 c4 : Int} {A : Option Addr} {m cp : Nat} {w' w2 : World} (h : BoxH w bx c0 c1 c2 c3 c4 A m cp w') (hk : w'.grownBy w2 (some g)) (hG : w.heap.size ≤ g) (hne : bx ≠ g) : BoxH w bx c0 c1 c2 c3 c4 A m cp w2 :=
  ⟨h.1.trans (below_grown hk h.1.size (by rintro _ ⟨⟩; exact hG)), blk_grown h.2 hk (by simpa using hne)⟩

set_option maxHeartbeats 8000000 in
set_option maxRecDepth 100000 in
theorem tells7_walk (a0 a1 : Int) (a2 : Option Addr) (len1 cap1 : Nat) (w : World) (w0 : (Lit.int .u8 a0).wf = true) (w1 : (Lit.int .i64 a1).wf = true) (r1 : StepsIn w a2 len1 cap1) :
    Calls Try.prog 4 #[.int .u8 a0, .int .i64 a1, .slice a2 len1 cap1] w fun e w' => e = .returned (.bool true) ∧ Below w.heap.size w w' := by
  have hb64 := bounds_i64 w1
  have ha1 : a1 ≤ 9223372036854775807 := by omega
  clear w1 hb64
  go_enter Try.func4, Try.ntmps4
  go_wp2_with fail
  refine (shown_any _).mono ?_
  rintro e w1 ⟨rfl, hb1⟩
  have HB1 := Lib.hid hb1
  have hg : w.heap.size ≤ w1.heap.size := hb1.size
  clear hb1
  go_wp2_with fail
  refine (master_new _ a0 a1 ha1).mono ?_
  rintro e w2 ⟨rfl, hb2, hs2⟩
  have HB2 : Hid (Below w.heap.size w w2) := HB1.out.trans (hb2.mono HB1.out.size)
  have HS2 := Lib.hid hs2
  have hl2 : w1.heap.size < w2.heap.size := hs2.lt
  clear hb2 hs2
  go_wp2_with fail
  refine (refm_new _ a0 a1 ha1).mono ?_
  rintro e w3 ⟨rfl, hb3, hs3⟩
  have HB3 : Hid (Below w.heap.size w w3) := HB2.out.trans (hb3.mono HB2.out.size)
  have HS3 : Hid (MasterAt w3 w1.heap.size w1.heap.size (MS.new a0 a1)) := HS2.out.below hb3
  have HR3 := Lib.hid hs3
  clear hb3 hs3
  go_wp2_with fail
  go_loopw [10] (fun i wr => ∃ (k : Nat), k ≤ len1 ∧ k ≤ 300 ∧ i = .int .i64 k ∧ TelR w wr w1.heap.size w2.heap.size a0 k) (fun i _ => len1 - (intOf i).toNat)
  case atStart => exact ⟨0, Nat.zero_le _, by omega, rfl, HB3.out, _, HS3.out, HR3.out, rfl, Int.le_refl _, Int.le_refl _⟩
  case round =>
    obtain ⟨k, hk, hk300, rfl, hbr, M, hsr, hrr, hM0, hM1, hM2⟩ := hrel
    have HBr := Lib.hid hbr
    have HSr := Lib.hid hsr
    have HRr := Lib.hid hrr
    have HM0 := Lib.hid hM0
    have hgw : w1.heap.size < wr.heap.size := hsr.lt
    have hhw : w2.heap.size < wr.heap.size := hrr.lt
    clear hbr hsr hrr hM0 HS2 HB2 HB1 HB3 HS3 HR3
    have hmax : len1 ≤ 9223372036854775807 := by
      rcases r1 with ⟨_, h1, _⟩ | ⟨_, _, h1, h2, _⟩
      · omega
      · unfold maxLen at h2; omega
    by_cases hlt : k < len1
    · by_cases h300 : k < 300
      · have hd : (decide ((k : Int) < 300)) = true := by simp; omega
        obtain ⟨x1, rfl, hlc1, _, hst⟩ := r1.resolve_left (by rintro ⟨_, h, _⟩; omega)
        obtain ⟨kd, fa, fk, fs, fq, fc, A, n, cp, z, own, hst⟩ := hst k hlt
        have HI := Lib.hid (hst.below HBr.out)
        have HJ := Lib.hid hst
        obtain ⟨c0, c1, c2, c3, c4, c5, c6, c7, hrow, hs1, hs2⟩ := HI.out
        have HRow := Lib.hid hrow
        have e1 : wr.cell? ⟨(x1.add (k * 8)).block, (x1.add (k * 8)).off + 1, none⟩ = some (.int .u8 fa) := by simpa [Addr.add] using c1
        have e2 : wr.cell? ⟨(x1.add (k * 8)).block, (x1.add (k * 8)).off + 2, none⟩ = some (.int .u8 fk) := by simpa [Addr.add] using c2
        have e3 : wr.cell? ⟨(x1.add (k * 8)).block, (x1.add (k * 8)).off + 3, none⟩ = some (.int .u8 fs) := by simpa [Addr.add] using c3
        have e4 : wr.cell? ⟨(x1.add (k * 8)).block, (x1.add (k * 8)).off + 4, none⟩ = some (.int .u8 fq) := by simpa [Addr.add] using c4
        have e5 : wr.cell? ⟨(x1.add (k * 8)).block, (x1.add (k * 8)).off + 5, none⟩ = some (.int .u8 fc) := by simpa [Addr.add] using c5
        have e6 : wr.cell? ⟨(x1.add (k * 8)).block, (x1.add (k * 8)).off + 6, none⟩ = some (.slice A n cp) := by simpa [Addr.add] using c6
        have e7 : wr.cell? ⟨(x1.add (k * 8)).block, (x1.add (k * 8)).off + 7, none⟩ = some (.bool own) := by simpa [Addr.add] using c7
        have hpb : (x1.add (k * 8)).block < wr.heap.size := World.block_lt_of_cell? wr _ c0
        obtain ⟨m, hm1, hm2, -, hmin⟩ := min_nat n 40
        have hncp := HRow.out.cap.1
        have hcpm := HRow.out.cap.2
        obtain ⟨bl, hbl⟩ : ∃ bl, bl = toB (z.take m) := ⟨_, rfl⟩
        have hrd : ReadsB w (.slice A m cp) bl := by rw [hbl]; exact row_reads (HJ.out.row.cut hm1) (by omega)
        have hbm : bl.length = m := by
          obtain ⟨_, _, he, _⟩ := hrd
          injection he with _ e2 _
          exact e2.symm
        have hng : NotIn w1.heap.size (.slice A m cp) bl := by rw [hbl]; exact HJ.out.row.notIn hg
        have HRd := Lib.hid hrd
        have HNg := Lib.hid hng
        have HBM := Lib.hid hbm
        have HMIN := Lib.hid hmin
        clear hst hrow hrd hng hbl hbm hmin r1
        go_wp2_with fail
        refine (frame_any _ w1.heap.size w1.heap.size M HSr.out kd fa fk fs fq fc a0 A n cp m own hncp hcpm hm1 HMIN.out ⟨hs1, hs2⟩).mono ?_
        rintro e w4 ⟨fa', fs', rfl, hb4, hf1, hf2⟩
        have HB4 : Hid (Below w.heap.size w w4) := HBr.out.trans (hb4.mono HBr.out.size)
        have HS4 : Hid (MasterAt w4 w1.heap.size w1.heap.size M) := HSr.out.below hb4
        have HR4 : Hid (RefMAt w4 w2.heap.size w2.heap.size M) := HRr.out.below hb4
        have hc4 : ∀ o, (w4.alloc o).cell? (x1.add (k * 8)) = some (.int .i64 kd) := fun o => by
          have h4 : w4.cell? (x1.add (k * 8)) = some (.int .i64 kd) := (hb4.cell hpb).trans c0
          rw [World.cell?_alloc_lt _ _ _ (World.block_lt_of_cell? w4 _ h4)]
          exact h4
        have hl4 : w1.heap.size < w4.heap.size := HS4.out.lt
        have hh4 : w2.heap.size < w4.heap.size := HR4.out.lt
        clear hb4 c0 c1 c2 c3 c4 c5 c6 c7 e1 e2 e3 e4 e5 e6 e7 HI HSr HRow HRr
        go_upto_region 11 with fail
        go_cut [47] (fun s w' => s = .int .i64 kd ∧ BoxH w w4.heap.size fa' fk fs' fq fc A m cp w' ∧ MasterAt w' w1.heap.size w1.heap.size M ∧ RefMAt w' w2.heap.size w2.heap.size M)
        case first =>
          go_wp2_with fail
          go_meet
          case rel => exact ⟨rfl, ⟨HB4.out.trans (Below.mono (by go_grown) HB4.out.size), blk_new _ _⟩, HS4.out.below (by go_grown), HR4.out.below (by go_grown)⟩
        case rest =>
          obtain ⟨rfl, hbx, hsc, hrc⟩ := hcut
          have HBx := Lib.hid hbx
          have HSc := Lib.hid hsc
          have HRc := Lib.hid hrc
          have hgc : w1.heap.size < wc.heap.size := hsc.lt
          have hhc : w2.heap.size < wc.heap.size := hrc.lt
          have hne : w4.heap.size ≠ w2.heap.size := by omega
          clear hbx hsc hrc HS4 HR4 HB4 hc4
          go_step
          go_cut [12] (fun ok w' => ok = .bool true ∧ TelR w w' w1.heap.size w2.heap.size a0 (k + 1))
          case first =>
            by_cases k0 : kd = 0 ∨ kd = 1
            · obtain ⟨nn, M1, hF⟩ : ∃ n M1, M.sendF bl = (n, M1) := ⟨_, _, rfl⟩
              have hK := send_keeps hF
              have HF := Lib.hid hF
              clear hF
              rcases k0 with rfl | rfl
              all_goals
                go_upto_region 14 with fail
                go_region_held3 (fun w' => BoxH w w4.heap.size fa' fk fs' fq fc A m cp w' ∧ w'.cell? ⟨w4.heap.size, 5, none⟩ = some (.slice A m cp) ∧ (convert 26 9 (.slice A m cp)).run Try.prog w' = .ok (.string ⟨bl.toArray⟩) w')
                  ((first
                    | exact boxh_all ⟨HBx.out.1.drew, blk_drew HBx.out.2⟩ HRd.out
                    | exact boxh_all (boxh_grown (And.left (by assumption)) hgr6 (by omega) hne) HRd.out
                    | exact boxh_all (boxh_kept (And.left (by assumption)) hk5 hg) HRd.out
                    | assumption))
                  ((first
                    | (go_at_call 18; refine (masterK_send _ w1.heap.size w1.heap.size M M1 (.slice A m cp) bl nn ?_ ?_ HF.out).mono ?_; (exact HSc.out.below ((Below.refl _ _).drew)); (exact HRd.out.below (HBx.out.1.drew)); rintro e w5 ⟨rfl, hk5, hs5⟩)
                    | (go_at_call 19; refine (refm_send _ w2.heap.size w2.heap.size M M1 bl nn ?_ HF.out).mono ?_; (exact ref_keptM (HRc.out.below ((Below.refl _ _).drew)) hk5); rintro e w6 ⟨rfl, hgr6, hr6⟩)))
                go_wp2_with fail
                go_meet
                case rel =>
                  have hR5 := ref_keptM (HRc.out.below ((Below.refl _ _).drew)) hk5
                  exact ⟨by simp, (‹BoxH w w4.heap.size fa' fk fs' fq fc A m cp w6 ∧ _›).1.1, M1, master_keptR hs5 hR5 hgr6 (by omega), hr6, hK.1.trans HM0.out, by rw [hK.2]; exact hM1, by rw [hK.2]; omega⟩
            · by_cases k15 : 2 ≤ kd ∧ kd ≤ 5
              · obtain ⟨l, okb, M1, hF⟩ : ∃ l okb M1, M.heardF ⟨fa', fk, fs', fq, fc, bl⟩ = (l, okb, M1) := ⟨_, _, _, rfl⟩
                have hK := heard_keeps hF
                have hL : l.length ≤ 40 := by
                  have h1 := heard_len hF
                  have h2 := HBM.out
                  simp only at h1
                  omega
                have HF := Lib.hid hF
                clear hF
                obtain ⟨b0, b1, b2, b3, b4, b5⟩ := blk6 HBx.out.2
                have hkk : kd = 2 ∨ kd = 3 ∨ kd = 4 ∨ kd = 5 := by omega
                rcases hkk with rfl | rfl | rfl | rfl
                all_goals
                  go_wp2_with fail
                  refine (masterK_heard _ w1.heap.size w1.heap.size M M1 ⟨fa', fk, fs', fq, fc, bl⟩ A m cp l okb HBM.out.symm HSc.out (HRd.out.below HBx.out.1) HNg.out hM1 (by omega) HF.out).mono ?_
                  rintro e w5 ⟨v5, rfl, ho5, hk5, hs5⟩
                  obtain ⟨A5, c5, rfl⟩ := own_slice ho5
                  have hx5 := boxh_kept HBx.out hk5 hg
                  have HX5 := Lib.hid hx5
                  have HS5 := Lib.hid hs5
                  have HR5 := Lib.hid (ref_keptM HRc.out hk5)
                  have HO5 := Lib.hid ho5
                  obtain ⟨d0, d1, d2, d3, d4, d5⟩ := blk6 hx5.2
                  have hh5 : w2.heap.size < w5.heap.size := HR5.out.lt
                  clear ho5 hk5 hs5 hx5 b0 b1 b2 b3 b4 b5
                  go_wp2_with fail
                  refine (of_any _ fa' fk fs' fq fc (.slice A m cp) bl (HRd.out.below HX5.out.1)).mono ?_
                  rintro e w6 ⟨rfl, hb6⟩
                  have HB6 : Hid (Below w.heap.size w w6) := HX5.out.1.trans (hb6.mono HX5.out.1.size)
                  have HS6 := Lib.hid (HS5.out.below hb6)
                  have HR6 := Lib.hid (HR5.out.below hb6)
                  have HO6 := Lib.hid (own_below HO5.out hb6)
                  clear hb6 d0 d1 d2 d3 d4 d5
                  go_wp2_with fail
                  refine (refm_heard _ w2.heap.size w2.heap.size M M1 ⟨fa', fk, fs', fq, fc, bl⟩ l okb HR6.out hM1 (by omega) HF.out).mono ?_
                  rintro e w7 ⟨rfl, hgr7, hr7⟩
                  have ho7 := own_grown HO6.out hgr7 (fun k2 hk2 e2 => by have := (own_lt HO5.out k2 hk2).1; cases e2; omega)
                  have kd7 : (convert 26 9 (.slice A5 l.length c5)).run Try.prog w7 = .ok (.string ⟨l.toArray⟩) w7 := conv_bytes _ _ l (own_reads ho7 (by omega))
                  have HB7 : Hid (Below w.heap.size w w7) := HB6.out.trans (below_grown hgr7 HB6.out.size (by rintro _ ⟨⟩; omega))
                  have HS7 : Hid (MasterAt w7 w1.heap.size w1.heap.size M1) := master_keptR HS6.out HR6.out hgr7 (by omega)
                  have HR7 := Lib.hid hr7
                  have hsv : strV l = .string ⟨l.toArray⟩ := rfl
                  rw [hsv]
                  clear hgr7 hr7 ho7 hsv
                  go_wp2_with fail
                  go_meet
                  case rel => exact ⟨by simp, HB7.out, M1, HS7.out, HR7.out, hK.1.trans HM0.out, by omega, by omega⟩
              · by_cases k6 : kd = 6
                · subst k6
                  obtain ⟨d, M1, hF⟩ : ∃ d M1, M.missedF = (d, M1) := ⟨_, _, rfl⟩
                  have hK := missed_keeps hF
                  have HF := Lib.hid hF
                  clear hF
                  go_wp2_with fail
                  refine (masterK_missed _ w1.heap.size w1.heap.size M M1 d HSc.out HF.out).mono ?_
                  rintro e w5 ⟨rfl, hk5, hs5⟩
                  have HX5 := Lib.hid (boxh_kept HBx.out hk5 hg)
                  have HS5 := Lib.hid hs5
                  have HR5 := Lib.hid (ref_keptM HRc.out hk5)
                  clear hk5 hs5
                  go_wp2_with fail
                  refine (refm_missed _ w2.heap.size w2.heap.size M M1 d HR5.out HF.out).mono ?_
                  rintro e w6 ⟨rfl, hgr6, hr6⟩
                  have HX6 := Lib.hid (boxh_grown HX5.out hgr6 (by omega) hne)
                  have HS6 := Lib.hid (master_keptR HS5.out HR5.out hgr6 (by omega))
                  have HR6 := Lib.hid hr6
                  clear hgr6 hr6
                  go_wp2_with fail
                  go_meet
                  case rel => exact ⟨by simp, HX6.out.1, M1, HS6.out, HR6.out, hK.1.trans HM0.out, by rw [hK.2]; exact hM1, by rw [hK.2]; omega⟩
                · have e0 : (kd == 0) = false := by simp; omega
                  have e1 : (kd == 1) = false := by simp; omega
                  have e2 : (kd == 2) = false := by simp; omega
                  have e3 : (kd == 3) = false := by simp; omega
                  have e4 : (kd == 4) = false := by simp; omega
                  have e5 : (kd == 5) = false := by simp; omega
                  have e6 : (kd == 6) = false := by simpa using k6
                  go_wp2_with fail
                  go_meet
                  case rel => exact ⟨rfl, HBx.out.1, M, HSc.out, HRc.out, HM0.out, hM1, by omega⟩
          case rest =>
            obtain ⟨rfl, hbe, M1, hse, hre, hE0, hE1, hE2⟩ := hcut
            obtain ⟨vq, hgq, hoq⟩ := hre.ex
            obtain ⟨Aq, cq, rfl⟩ := hoq.slice
            have hnl := nextF_len hse.ok
            obtain ⟨nf, hnf⟩ : ∃ nf, M1.nextF = nf := ⟨_, rfl⟩
            have HNF := Lib.hid hnf
            rw [hnf] at hnl
            have HT : Hid (TelH w w1.heap.size w2.heap.size M1 (.slice Aq M1.queue.length cq) wc) := ⟨hbe, hse, hre, hgq⟩
            have HE0 := Lib.hid hE0
            clear hbe hse hre hgq hoq hnf hE0
            have keq := neq46
            have kgd := nguard46
            go_upto_region 24 with fail
            go_region_held3 (fun w' => TelH w w1.heap.size w2.heap.size M1 (.slice Aq M1.queue.length cq) w' ∧ w'.cell? ⟨w2.heap.size, 3, none⟩ = some (.int .i64 M1.state) ∧ w'.cell? ⟨w2.heap.size, 4, none⟩ = some (.int .i64 M1.epoch) ∧ w'.cell? ⟨w2.heap.size, 7, none⟩ = some (.slice Aq M1.queue.length cq))
              ((first
                | exact tel_all (tel_below HT.out ((Below.refl _ _).drew))
                | assumption
                | exact tel_step (by assumption) (by assumption)))
              ((first
                | (go_at_call 14; refine (master_next _ w1.heap.size w1.heap.size M1 ?_).mono ?_; (exact (‹TelH w w1.heap.size w2.heap.size M1 (.slice Aq M1.queue.length cq) _ ∧ _›).1.2.1); rw [HNF.out]; rintro e w9 ⟨v9, rfl, ho, hb9⟩; obtain ⟨A9, c9, rfl⟩ := own_slice ho; have HO9 := Lib.hid (own_reads ho (by omega)))
                | (go_at_call 21; refine (of_any _ nf.addr nf.kind nf.sess nf.seq nf.ack (.slice A9 nf.b.length c9) nf.b ?_).mono ?_; (first | exact HO9.out | exact HO9.out.below hb11); rintro e w10 ⟨rfl, hb10⟩)
                | (go_at_call 24; refine (refm_next _ w2.heap.size w2.heap.size M1 ?_).mono ?_; (exact (‹TelH w w1.heap.size w2.heap.size M1 (.slice Aq M1.queue.length cq) _ ∧ _›).1.2.2.1); rw [HNF.out]; rintro e w11 ⟨rfl, hb11⟩)
                | (go_at_call 13; refine (master_state _ w1.heap.size w1.heap.size M1 ?_).mono ?_; (exact (‹TelH w w1.heap.size w2.heap.size M1 (.slice Aq M1.queue.length cq) _ ∧ _›).1.2.1); rintro e w7 ⟨rfl, rfl⟩)
                | (go_at_call 15; refine (master_epoch _ w1.heap.size w1.heap.size M1 ?_).mono ?_; (exact (‹TelH w w1.heap.size w2.heap.size M1 (.slice Aq M1.queue.length cq) _ ∧ _›).1.2.1); rintro e w7 ⟨rfl, rfl⟩)
                | (go_at_call 25; refine (master_len _ w1.heap.size w1.heap.size M1 ?_).mono ?_; (exact (‹TelH w w1.heap.size w2.heap.size M1 (.slice Aq M1.queue.length cq) _ ∧ _›).1.2.1); rintro e w7 ⟨rfl, rfl⟩)))
            all_goals
              go_wp2_with fail
              have hT := (‹TelH w w1.heap.size w2.heap.size M1 (.slice Aq M1.queue.length cq) _ ∧ _›).1
              go_roundw
              case rel => exact ⟨k + 1, by omega, by omega, by go_num, hT.1, M1, hT.2.1, hT.2.2.1, HE0.out, hE1, by omega⟩
              case measure => simp [intOf]; omega
      · have hd : (decide ((k : Int) < 300)) = false := by simp; omega
        go_wp2_with fail
        go_ret
        exact ⟨rfl, HBr.out⟩
    · go_wp2_with fail
      go_ret
      exact ⟨rfl, HBr.out⟩
end Go.Proofs.Ytdgbmiobfehpdaa
