/- The walk of lamplightlaw09.PollPlays. -/
import Derived.Test.YtmkbleeideddkaaQe
import Derived.Deep.CutBlock
import Derived.Deep.RegionHeld3
set_option linter.unusedVariables false
set_option linter.unusedSimpArgs false
namespace Go.Proofs.Ytmkbleeideddkaa
open Go.RowKit

set_option maxHeartbeats 4000000 in
set_option maxRecDepth 100000 in
theorem pplays_walk (a0 : Option Addr) (len0 cap0 : Nat) (z0 : List Int) (a1 : Option Addr) (len1 cap1 : Nat) (w : World) (w0 : IsRow8 w a0 len0 cap0 z0) (w1 : StepsIn w a1 len1 cap1) :
    Calls Try.prog 3 #[.slice a0 len0 cap0, .slice a1 len1 cap1] w fun e w' => e = .returned (.bool true) ∧ Below w.heap.size w w' := by
  obtain ⟨m, l, hm1, hm2, hm3, hc1, hc2, hl, hl4, hmin, hrd⟩ := addrs_in w0
  obtain ⟨i5, hi5, hz50, hz51, hz52⟩ := info_parts Try.info5
  have r2 := w1
  have hmax : len1 ≤ 9223372036854775807 := by
    rcases r2 with ⟨_, h1, _⟩ | ⟨_, _, h1, h2, _⟩
    · omega
    · unfold maxLen at h2; omega
  have HRD := Lib.hid hrd
  clear w0 w1 hrd
  go_enter Try.func3, Try.ntmps3
  go_wp2_with fail
  refine (shown_any _).mono ?_
  rintro e w1 ⟨rfl, hb1'⟩
  have HB1 := Lib.hid hb1'
  clear hb1'
  have hal0 : Below w1.heap.size w1 (w1.alloc (.cells #[] 5)) := (Below.refl _ _).alloc (Nat.le_refl _) _
  have HR1 := Lib.hid ((HRD.out.below HB1.out).below hal0)
  have HE1 : Hid (World.ownsRow (w1.alloc (.cells #[] 5)) w1.heap.size 5 1 (.slice (some ⟨w1.heap.size, 0, none⟩) 0 0) ([] : List UInt8).length (bytesV [])) := World.ownsRow_made w1 #[] 0 (Nat.le_refl _) (Nat.zero_le _) rfl
  clear hal0
  go_wp2_with (at_builtin; go_loud (refine wpList_append_reads rfl (.tmp 19) (.tmp 24) 22 rfl w1.heap.size 5 i5 Try.underlying22 hi5 hz50 hz51 hz52 (.slice (some ⟨w1.heap.size, 0, none⟩) 0 0) (.slice a0 m cap0) [] l rfl ?_ rfl ?_ ?_ ?_ ?_))
  · exact HE1.out
  · exact HR1.out
  · simp; omega
  · simp
  intro v0 w2 ho2 hg2
  try simp only [List.nil_append] at ho2
  obtain ⟨A0, c0, rfl⟩ := own_slice ho2
  have hb2 : Below w1.heap.size w1 w2 := ((Below.refl _ w1).alloc (Nat.le_refl _) _).grown hg2 (by simp) (by intro k hk; simp [Value.ownBlock] at hk; omega)
  have hcc := own_cap ho2
  have HO2 := Lib.hid ho2
  have HB2 : Hid (Below w.heap.size w w2) := HB1.out.trans (hb2.mono HB1.out.size)
  have HRD2 := Lib.hid (own_reads ho2 (by omega))
  have hg12 : w.heap.size ≤ w1.heap.size := HB1.out.size
  clear ho2 hg2 hb2 HE1 HR1 hmin hl
  go_wp2_with fail
  refine (poll_new _ (.slice A0 m c0) l HRD2.out hl4 (cap_lit (by omega))).mono ?_
  rintro e w3 ⟨rfl, hb3, hs3⟩
  have HB3 := Lib.hid hb3
  have HS3 := Lib.hid hs3
  have HRD3 := Lib.hid (HRD2.out.below hb3)
  have HO3 := Lib.hid (own_below HO2.out hb3)
  clear hb3 hs3
  go_wp2_with fail
  refine (ref_new _ (.slice A0 m c0) l HRD3.out hl4 (cap_lit (by omega))).mono ?_
  rintro e w4 ⟨rfl, hb4, rv, hr4⟩
  obtain ⟨AL, hAL⟩ : ∃ AL, AL = (newF (intsOf l)).row.map PP.addr := ⟨_, rfl⟩
  have hsz2 := HB2.out.size
  have hsz3 := HB3.out.size
  have HZ : Hid (∃ P, PlayZ w w4 w2.heap.size w3.heap.size rv AL P (.slice A0 m c0) m) :=
    ⟨_, ⟨(HB2.out.trans (HB3.out.mono hsz2)).trans (hb4.mono (by omega)), (HS3.out.below hb4).lower hsz2, hr4.lower (by omega), hAL.symm⟩, (RowZ.of (own_lower HO3.out hg12)).below hb4⟩
  clear hb4 hr4 hAL HO3 HRD3 HS3 HB3 HB2 HO2 HRD2 hsz2 hsz3
  go_wp2_with fail
  go_loopw [8] (fun i wr => ∃ j : Nat, j ≤ m ∧ i = .int .i64 j ∧ ∃ P, PlayZ w wr w2.heap.size w3.heap.size rv AL P (.slice A0 m c0) m) (fun i _ => m - (intOf i).toNat)
  case atStart => exact ⟨0, Nat.zero_le _, rfl, HZ.out⟩
  case round =>
    obtain ⟨j, hj, rfl, P0, hpz⟩ := hrel
    have HPZ := Lib.hid hpz
    clear hpz
    by_cases hjl : j < m
    · obtain ⟨b, c, z, he, h1, h2, h3, h4, hset⟩ := HPZ.out.at hjl
      cases he
      have HSET := Lib.hid (hset (.int .u8 77))
      clear hset
      go_wp2_with fail
      go_roundw
      case rel => exact ⟨j + 1, by omega, by go_num, P0, HSET.out⟩
      case measure => simp [intOf]; omega
    · have HT0 := Lib.hid HPZ.out.s
      clear HPZ HZ
      go_wp2_with fail
      go_loopw [9] (fun i wr => ∃ k : Nat, k ≤ len1 ∧ k ≤ 200 ∧ i = .int .i64 k ∧ ∃ P, Plays w wr w2.heap.size w3.heap.size rv AL P) (fun i _ => len1 - (intOf i).toNat)
      case atStart => exact ⟨0, Nat.zero_le _, by omega, rfl, P0, HT0.out⟩
      case round =>
        obtain ⟨k, hk, hk200, rfl, P, hsm⟩ := hrel
        have HSM := Lib.hid hsm
        clear hsm HT0
        by_cases hstop : k < len1 ∧ k < 200
        · obtain ⟨hlt2, h200⟩ := hstop
          have hd : (decide ((k : Int) < 200)) = true := by simp; omega
          obtain ⟨x1, rfl, hlc1, _, hst⟩ := r2.resolve_left (by rintro ⟨_, h, _⟩; omega)
          obtain ⟨kd, y, now, q0, q1, q2, hy, hnow⟩ := hst k hlt2
          have gb : ∀ {q : Addr} {v : Value}, w.cell? q = some v → wr.cell? q = some v := fun hc => (HSM.out.be.cell (World.block_lt_of_cell? w _ hc)).trans hc
          have d0 := gb q0
          have d1 : wr.cell? ⟨(x1.add (k * 3)).block, (x1.add (k * 3)).off + 1, none⟩ = some (.int .u8 y) := by simpa [Addr.add] using gb q1
          have d2 : wr.cell? ⟨(x1.add (k * 3)).block, (x1.add (k * 3)).off + 2, none⟩ = some (.int .i64 now) := by simpa [Addr.add] using gb q2
          clear gb q0 q1 q2 hst
          have hal2 : Below wr.heap.size wr (wr.alloc (.cells #[.int .i64 kd, .int .u8 y, .int .i64 now] 30)) := (Below.refl _ _).alloc (Nat.le_refl _) _
          have HT := Lib.hid (HSM.out.below hal2)
          have HBX : Hid (BoxAt (wr.alloc (.cells #[.int .i64 kd, .int .u8 y, .int .i64 now] 30)) wr.heap.size kd y now) := blk_new _ _
          clear hal2
          go_upto_block 4 with fail
          go_cut [11] (fun b w' => b = .bool true ∧ BoxAt w' wr.heap.size kd y now ∧ ∃ P', Plays w w' w2.heap.size w3.heap.size rv AL P')
          case first =>
            have e0 := blk_cell HBX.out 0
            have e1 := blk_cell HBX.out 1
            have e2 := blk_cell HBX.out 2
            clear d0 d1 d2
            go_upto_if 57 with fail
            go_cut [57] (fun v w' => v = .bool (decide (kd = 1 ∨ kd = 2 ∨ kd = 3)) ∧ w' = wr.alloc (.cells #[.int .i64 kd, .int .u8 y, .int .i64 now] 30))
            case first =>
              by_cases h1 : kd = 1
              · have hb1 : (kd == 1) = true := by simpa using h1
                have H1 := Lib.hid h1
                clear h1
                go_wp2_with fail
                go_meet
                case rel => exact ⟨by simp [H1.out], rfl⟩
              · have hb1 : (kd == 1) = false := by simpa using h1
                have H1 := Lib.hid h1
                clear h1
                by_cases h2 : kd = 2
                · have hb2 : (kd == 2) = true := by simpa using h2
                  have H2 := Lib.hid h2
                  clear h2
                  go_wp2_with fail
                  go_meet
                  case rel => exact ⟨by simp [H2.out], rfl⟩
                · have hb2 : (kd == 2) = false := by simpa using h2
                  have H2 := Lib.hid h2
                  clear h2
                  go_wp2_with fail
                  go_meet
                  case rel => exact ⟨by simp [H1.out, H2.out]; rfl, rfl⟩
            case rest =>
            obtain ⟨rfl, rfl⟩ := hcut
            by_cases hnx : kd = 1 ∨ kd = 2 ∨ kd = 3
            · obtain ⟨x, ok, P', hF, had', -, -⟩ := next_law P now
              have HFX := Lib.hid hF
              have HAD' := Lib.hid had'
              clear hF had'
              go_wp2_with fail
              refine (poll_next _ w.heap.size w2.heap.size P P' now x ok HT.out.po hnow HFX.out).mono ?_
              rintro e w6 ⟨rfl, hk6, hp6⟩
              have HT6 := Lib.hid (HT.out.poll hk6 hp6 HAD'.out)
              have hbx := HBX.out.kept hk6 (by decide)
              have HBX6 := Lib.hid hbx
              have f2 := blk_cell hbx 2
              clear hk6 hp6 e0 e1 e2 hbx
              go_wp2_with fail
              refine (ref_next _ w.heap.size w3.heap.size rv P P' now x ok HT6.out.re hnow HFX.out).mono ?_
              rintro e w7 ⟨rfl, hk7, hp7⟩
              have HT7 := Lib.hid (HT6.out.ref hk7 hp7)
              have HBX7 := Lib.hid (HBX6.out.kept hk7 (by decide))
              clear hk7 hp7 f2
              go_wp2_with fail
              go_meet
              case rel => exact ⟨rfl, HBX7.out, P', HT7.out⟩
            · have hnd : decide (kd = 1 ∨ kd = 2 ∨ kd = 3) = false := by simpa using hnx
              rw [hnd]
              clear hnd hnx
              by_cases h4 : kd = 4
              · obtain ⟨nn, P', hF, had', -⟩ := dead_law P y now
                have HFX := Lib.hid hF
                have HAD' := Lib.hid had'
                have hb4 : (kd == 4) = true := by simpa using h4
                clear hF had' h4
                go_upto_region 24 with fail
                go_region_held3 (fun w' => BoxAt w' wr.heap.size kd y now ∧ w'.cell? ⟨wr.heap.size, 1, none⟩ = some (.int .u8 y) ∧ w'.cell? ⟨wr.heap.size, 2, none⟩ = some (.int .i64 now))
                  ((first
                    | exact BoxAt.all (blk_below' HBX.out (drew_below _))
                    | assumption))
                  ((first
                    | (go_at_call 15; refine (poll_dead _ w.heap.size w2.heap.size P P' y now nn ?_ hnow HFX.out).mono ?_; exact (HT.out.below (drew_below _)).po; rintro e wA ⟨rfl, kA, pA⟩; have hA := Plays.poll (HT.out.below (drew_below _)) kA pA HAD'.out; have sA := BoxAt.all (BoxAt.kept (blk_below' HBX.out (drew_below _)) kA (by decide)))
                    | (go_at_call 16; refine (ref_dead _ w.heap.size w3.heap.size rv P P' y now nn hA.re hnow HFX.out).mono ?_; rintro e wB ⟨rfl, kB, pB⟩; have hB := Half.ref hA kB pB; have sB := BoxAt.all (BoxAt.kept sA.1 kB (by decide)))))
                all_goals
                  go_wp2_with fail
                  go_meet
                  case rel => exact ⟨by simp, sB.1, P', hB⟩
              · have hb4 : (kd == 4) = false := by simpa using h4
                clear h4
                by_cases h5 : kd = 5
                · obtain ⟨nn, P', hF, had', -⟩ := alive_law P y
                  have HFX := Lib.hid hF
                  have HAD' := Lib.hid had'
                  have hb5 : (kd == 5) = true := by simpa using h5
                  clear hF had' h5
                  go_upto_region 26 with fail
                  go_region_held3 (fun w' => BoxAt w' wr.heap.size kd y now ∧ w'.cell? ⟨wr.heap.size, 1, none⟩ = some (.int .u8 y) ∧ w'.cell? ⟨wr.heap.size, 2, none⟩ = some (.int .i64 now))
                    ((first
                      | exact BoxAt.all (blk_below' HBX.out (drew_below _))
                      | assumption))
                    ((first
                      | (go_at_call 17; refine (poll_alive _ w.heap.size w2.heap.size P P' y nn ?_ HFX.out).mono ?_; exact (HT.out.below (drew_below _)).po; rintro e wA ⟨rfl, kA, pA⟩; have hA := Plays.poll (HT.out.below (drew_below _)) kA pA HAD'.out; have sA := BoxAt.all (BoxAt.kept (blk_below' HBX.out (drew_below _)) kA (by decide)))
                      | (go_at_call 18; refine (ref_alive _ w.heap.size w3.heap.size rv P P' y nn hA.re HFX.out).mono ?_; rintro e wB ⟨rfl, kB, pB⟩; have hB := Half.ref hA kB pB; have sB := BoxAt.all (BoxAt.kept sA.1 kB (by decide)))))
                  all_goals
                    go_wp2_with fail
                    go_meet
                    case rel => exact ⟨by simp, sB.1, P', hB⟩
                · have hb5 : (kd == 5) = false := by simpa using h5
                  clear h5
                  go_wp2_with fail
                  go_meet
                  case rel => exact ⟨rfl, HBX.out, P, HT.out⟩
          case rest =>
          obtain ⟨w7, rfl⟩ : ∃ w7, w7 = wc := ⟨wc, rfl⟩
          obtain ⟨rfl, hbx7, P', hs7⟩ := hcut
          have HS7 := Lib.hid hs7
          have HBX7 := Lib.hid hbx7
          clear hs7 hbx7 HT HBX d0 d1 d2
          go_upto_region 27 with fail
          go_cut [121] (fun b w' => b = .bool false ∧ Plays w w' w2.heap.size w3.heap.size rv AL P')
          case first =>
            have e1 := blk_cell HBX7.out 1
            go_region_held3 (fun w' => BoxAt w' wr.heap.size kd y now ∧ w'.cell? ⟨wr.heap.size, 1, none⟩ = some (.int .u8 y) ∧ w'.cell? ⟨wr.heap.size, 2, none⟩ = some (.int .i64 now))
              ((first
                | exact BoxAt.all (blk_below' HBX7.out (drew_below _))
                | assumption))
              ((first
                | (go_at_call 19; refine (poll_is _ w.heap.size w2.heap.size P' y ?_).mono ?_; exact (HS7.out.below (drew_below _)).po; rintro e wA ⟨rfl, bA⟩; have hA := (HS7.out.below (drew_below _)).below bA; have sA := BoxAt.all (blk_below' (blk_below' HBX7.out (drew_below _)) bA))
                | (go_at_call 20; refine (ref_is _ w.heap.size w3.heap.size rv P' y hA.re).mono ?_; rintro e wB ⟨rfl, rfl⟩)))
            all_goals
              go_wp2_with fail
              go_meet
              case rel => exact ⟨by simp, hA⟩
          case rest =>
          obtain ⟨w9, rfl⟩ : ∃ w9, w9 = wc := ⟨wc, rfl⟩
          obtain ⟨rfl, hs9⟩ := hcut
          have HS9 := Lib.hid hs9
          clear hs9 HS7 HBX7
          go_wp2_with fail
          go_roundw
          case rel => exact ⟨k + 1, by omega, by omega, by go_num, P', HS9.out⟩
          case measure => simp [intOf]; omega
        · go_upto_region 12 with fail
          go_cut [48] (fun b w' => b = .bool false ∧ w' = wr)
          case first =>
            by_cases hjl2 : k < len1
            · have hjd : decide ((k : Int) < 200) = false := by simp; omega
              go_wp2_with fail
              go_meet
              case rel => exact ⟨rfl, rfl⟩
            · go_wp2_with fail
              go_meet
              case rel => exact ⟨rfl, rfl⟩
          case rest =>
          obtain ⟨rfl, rfl⟩ := hcut
          go_wp2_with fail
          refine (poll_addrs _ w.heap.size w2.heap.size P HSM.out.po).mono ?_
          rintro e w8 ⟨hb8, va, rfl, ho8⟩
          have he := (⟨HSM.out.below hb8, own_lower ho8 HSM.out.be.size⟩ : PlayE w w8 w2.heap.size w3.heap.size rv AL P va)
          obtain ⟨Ax, cx, rfl⟩ := own_slice ho8
          obtain ⟨Ar, cr, rfl⟩ := own_slice he.s.re.row
          have g0 := blk_cell he.s.re.blk 0
          simp at g0
          have hn40 : P.row.length ≤ 40 := he.s.re.n40
          have HE := Lib.hid he
          clear hb8 ho8 he HSM
          go_wp2_with fail
          clear g0
          go_loopw [17] (fun i wr => ∃ j : Nat, j ≤ P.row.length ∧ i = .int .i64 j ∧ PlayE w wr w2.heap.size w3.heap.size (.slice Ar P.row.length cr) AL P (.slice Ax P.row.length cx)) (fun i _ => P.row.length - (intOf i).toNat)
          case atStart => exact ⟨0, Nat.zero_le _, rfl, HE.out⟩
          case round =>
            obtain ⟨j, hj, rfl, hpe⟩ := hrel
            have HPE := Lib.hid hpe
            clear hpe
            by_cases hjl : j < P.row.length
            · obtain ⟨gr, c', p, hp, he, hc1, hc2, p0, p1, p2, hfz, hgh⟩ := HPE.out.s.re.at hjl
              cases he
              obtain ⟨gx, rfl, hx1, hx2, hcell⟩ := own_cell HPE.out.al hjl (addrV_get hp)
              have g0 := blk_cell HPE.out.s.re.blk 0
              simp at g0
              clear hp hfz p1 p2
              go_upto_region 35 with fail
              go_cut [150] (fun b w' => b = .bool false ∧ Below wr.heap.size wr w')
              case first =>
                go_quiet (fail)
                go_wp2_with fail
                go_meet
                case rel => exact ⟨by simp, below_drewN (Below.refl _ _) _⟩
              case rest =>
              obtain ⟨rfl, hbc⟩ := hcut
              have HN := Lib.hid (HPE.out.below hbc)
              clear hbc p0 hcell g0
              go_wp2_with fail
              go_roundw
              case rel => exact ⟨j + 1, by omega, by go_num, HN.out⟩
              case measure => simp [intOf]; omega
            · go_wp2_with fail
              go_ret
              exact ⟨rfl, HPE.out.s.be⟩
end Go.Proofs.Ytmkbleeideddkaa
