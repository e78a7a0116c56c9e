/- The walk of lamplightlaw09.PollSame. -/
import Derived.Test.YtmkbleeideddkaaPs
import Derived.Deep.CutBlock
import Derived.Deep.RegionHeld3
set_option linter.unusedVariables false
set_option linter.unusedSimpArgs false
namespace Go.Proofs.Ytmkbleeideddkaa
open Go.RowKit

set_option maxHeartbeats 4000000 in
set_option maxRecDepth 100000 in
theorem psame_walk (a0 : Option Addr) (len0 cap0 : Nat) (z0 : List Int) (a1 : Option Addr) (len1 cap1 : Nat) (w : World) (w0 : IsRow8 w a0 len0 cap0 z0) (w1 : StepsIn w a1 len1 cap1) :
    Calls Try.prog 9 #[.slice a0 len0 cap0, .slice a1 len1 cap1] w fun e w' => e = .returned (.bool true) ∧ Below w.heap.size w w' := by
  obtain ⟨m, l, hm1, hm2, hm3, hc1, hc2, hl, hl4, hmin, hrd⟩ := addrs_in w0
  have r2 := w1
  have hmax : len1 ≤ 9223372036854775807 := by
    rcases r2 with ⟨_, h1, _⟩ | ⟨_, _, h1, h2, _⟩
    · omega
    · unfold maxLen at h2; omega
  have HRD := Lib.hid hrd
  clear w0 w1 hrd
  go_enter Try.func9, Try.ntmps9
  go_wp2_with fail
  refine (shown_any _).mono ?_
  rintro e w1 ⟨rfl, hb1'⟩
  have HB1 := Lib.hid hb1'
  clear hb1'
  go_wp2_with fail
  refine (poll_new _ (.slice a0 m cap0) l (HRD.out.below HB1.out) hl4 (cap_lit (by omega))).mono ?_
  rintro e w2 ⟨rfl, hb2', hs2⟩
  have HB2 := Lib.hid hb2'
  have HS2 := Lib.hid hs2
  clear hb2' hs2 hmin
  go_wp2_with fail
  refine (poll_new _ (.slice a0 m cap0) l ((HRD.out.below HB1.out).below HB2.out) hl4 (cap_lit (by omega))).mono ?_
  rintro e w3 ⟨rfl, hb3', hs3⟩
  obtain ⟨v, v2, us, us2, htw⟩ := two_start HB1.out HB2.out HS2.out hb3' hs3
  obtain ⟨AL, hAL⟩ : ∃ AL, AL = (newF (intsOf l)).row.map PP.addr := ⟨_, rfl⟩
  have hal : ∀ n ∈ AL, 1 ≤ n ∧ n ≤ 31 := by
    rw [hAL]
    intro n hn
    obtain ⟨p, hp, rfl⟩ := List.mem_map.1 hn
    exact (newF_good _).1 p hp
  have hal40 : AL.length ≤ 40 := by
    rw [hAL, List.length_map]
    exact htw.p.n40
  have HT : Hid (∃ P, Same w w3 w1.heap.size w2.heap.size v v2 us us2 AL P) := ⟨_, htw, hAL.symm⟩
  have HAL := Lib.hid hal
  clear hb3' hs3 htw HB2 HS2 hAL hal
  go_wp2_with fail
  go_loopw [8] (fun i wr => ∃ k : Nat, k ≤ len1 ∧ k ≤ 100 ∧ i = .int .i64 k ∧ ∃ P, Same w wr w1.heap.size w2.heap.size v v2 us us2 AL P) (fun i _ => len1 - (intOf i).toNat)
  case atStart => exact ⟨0, Nat.zero_le _, by omega, rfl, HT.out⟩
  case round =>
    obtain ⟨k, hk, hk100, rfl, P, hsm⟩ := hrel
    have HSM := Lib.hid hsm
    clear hsm HT
    by_cases hlt2 : k < len1
    · by_cases h100 : k < 100
      · have hd : (decide ((k : Int) < 100)) = true := by simp; omega
        obtain ⟨x1, rfl, hlc1, _, hst⟩ := r2.resolve_left (by rintro ⟨_, h, _⟩; omega)
        obtain ⟨kd, y, now, c0, c1, c2, hy, hnow⟩ := hst k hlt2
        have gb : ∀ {q : Addr} {v : Value}, w.cell? q = some v → wr.cell? q = some v := fun hc => (HSM.out.tw.be.cell (World.block_lt_of_cell? w _ hc)).trans hc
        have d0 := gb c0
        have d1 : wr.cell? ⟨(x1.add (k * 3)).block, (x1.add (k * 3)).off + 1, none⟩ = some (.int .u8 y) := by simpa [Addr.add] using gb c1
        have d2 : wr.cell? ⟨(x1.add (k * 3)).block, (x1.add (k * 3)).off + 2, none⟩ = some (.int .i64 now) := by simpa [Addr.add] using gb c2
        clear gb c0 c1 c2 hst
        have hal2 : Below wr.heap.size wr (wr.alloc (.cells #[.int .i64 kd, .int .u8 y, .int .i64 now] 30)) := (Below.refl _ _).alloc (Nat.le_refl _) _
        have HT := Lib.hid (HSM.out.below hal2)
        have HBX : Hid (BoxAt (wr.alloc (.cells #[.int .i64 kd, .int .u8 y, .int .i64 now] 30)) wr.heap.size kd y now) := blk_new _ _
        clear hal2
        go_upto_block 2 with fail
        go_cut [10] (fun b w' => b = .bool true ∧ ∃ P', Same w w' w1.heap.size w2.heap.size v v2 us us2 AL P')
        case first =>
          have e0 := blk_cell HBX.out 0
          have e1 := blk_cell HBX.out 1
          have e2 := blk_cell HBX.out 2
          clear d0 d1 d2
          go_upto_if 49 with fail
          go_cut [49] (fun v w' => v = .bool (decide (kd = 1 ∨ kd = 2 ∨ kd = 3)) ∧ w' = wr.alloc (.cells #[.int .i64 kd, .int .u8 y, .int .i64 now] 30))
          case first =>
            by_cases h1 : kd = 1
            · have hb1 : (kd == 1) = true := by simpa using h1
              have H1 := Lib.hid h1
              clear h1
              go_wp2_with fail
              go_meet
              case rel => exact ⟨by simp [H1.out], rfl⟩
            · have hb1 : (kd == 1) = false := by simpa using h1
              have H1 := Lib.hid h1
              clear h1
              by_cases h2 : kd = 2
              · have hb2 : (kd == 2) = true := by simpa using h2
                have H2 := Lib.hid h2
                clear h2
                go_wp2_with fail
                go_meet
                case rel => exact ⟨by simp [H2.out], rfl⟩
              · have hb2 : (kd == 2) = false := by simpa using h2
                have H2 := Lib.hid h2
                clear h2
                go_wp2_with fail
                go_meet
                case rel => exact ⟨by simp [H1.out, H2.out]; rfl, rfl⟩
          case rest =>
          obtain ⟨rfl, rfl⟩ := hcut
          by_cases hnx : kd = 1 ∨ kd = 2 ∨ kd = 3
          · obtain ⟨x, ok, P', hF, had', -, -⟩ := next_law P now
            have HFX := Lib.hid hF
            have HAD' := Lib.hid had'
            clear hF had'
            go_wp2_with fail
            refine (poll_nextU _ w.heap.size w1.heap.size P P' now x ok v us HT.out.tw.p hnow HFX.out).mono ?_
            rintro e w6 ⟨rfl, hk6, hp6⟩
            have HT6 := Lib.hid (HT.out.tw.left hk6 hp6)
            have hbx := HBX.out.keptU HT.out.tw.p hk6
            have HBX6 := Lib.hid hbx
            have g2 := blk_cell hbx 2
            clear hk6 hp6 e0 e1 e2 hbx
            go_wp2_with fail
            refine (poll_nextU _ w.heap.size w2.heap.size P P' now x ok v2 us2 HT6.out.q hnow HFX.out).mono ?_
            rintro e w7 ⟨rfl, hk7, hp7⟩
            have HT7 := Lib.hid (HT6.out.right hk7 hp7)
            clear hk7 hp7 g2
            go_wp2_with fail
            go_meet
            case rel => exact ⟨rfl, P', HT7.out, HAD'.out.trans HT.out.ad⟩
          · have hnd : decide (kd = 1 ∨ kd = 2 ∨ kd = 3) = false := by simpa using hnx
            rw [hnd]
            clear hnd hnx
            by_cases h4 : kd = 4
            · obtain ⟨nn, P', hF, had', -⟩ := dead_law P y now
              have HFX := Lib.hid hF
              have HAD' := Lib.hid had'
              have hb4 : (kd == 4) = true := by simpa using h4
              clear hF had' h4
              go_upto_region 20 with fail
              go_region_held3 (fun w' => BoxAt w' wr.heap.size kd y now ∧ w'.cell? ⟨wr.heap.size, 1, none⟩ = some (.int .u8 y) ∧ w'.cell? ⟨wr.heap.size, 2, none⟩ = some (.int .i64 now))
                ((first
                  | exact BoxAt.all (blk_below' HBX.out (drew_below _))
                  | assumption))
                ((first
                  | (go_at_call 15; refine (poll_deadU _ w.heap.size w1.heap.size P P' y now nn v us ?_ hnow HFX.out).mono ?_; exact (HT.out.below (drew_below _)).tw.p; rintro e wA ⟨rfl, kA, pA⟩; have hA := Two.left (HT.out.below (drew_below _)).tw kA pA; have sA := BoxAt.all (BoxAt.keptU (blk_below' HBX.out (drew_below _)) (HT.out.below (drew_below _)).tw.p kA))
                  | (go_at_call 15; refine (poll_deadU _ w.heap.size w2.heap.size P P' y now nn v2 us2 ?_ hnow HFX.out).mono ?_; exact hA.q; rintro e wB ⟨rfl, kB, pB⟩; have hB := Two.right hA kB pB; have sB := BoxAt.all (BoxAt.keptU sA.1 hA.q kB))))
              all_goals
                go_wp2_with fail
                go_meet
                case rel => exact ⟨by simp, P', hB, HAD'.out.trans HT.out.ad⟩
            · have hb4 : (kd == 4) = false := by simpa using h4
              clear h4
              by_cases h5 : kd = 5
              · obtain ⟨nn, P', hF, had', -⟩ := alive_law P y
                have HFX := Lib.hid hF
                have HAD' := Lib.hid had'
                have hb5 : (kd == 5) = true := by simpa using h5
                clear hF had' h5
                go_upto_region 22 with fail
                go_region_held3 (fun w' => BoxAt w' wr.heap.size kd y now ∧ w'.cell? ⟨wr.heap.size, 1, none⟩ = some (.int .u8 y) ∧ w'.cell? ⟨wr.heap.size, 2, none⟩ = some (.int .i64 now))
                  ((first
                    | exact BoxAt.all (blk_below' HBX.out (drew_below _))
                    | assumption))
                  ((first
                    | (go_at_call 17; refine (poll_aliveU _ w.heap.size w1.heap.size P P' y nn v us ?_ HFX.out).mono ?_; exact (HT.out.below (drew_below _)).tw.p; rintro e wA ⟨rfl, kA, pA⟩; have hA := Two.left (HT.out.below (drew_below _)).tw kA pA; have sA := BoxAt.all (BoxAt.keptU (blk_below' HBX.out (drew_below _)) (HT.out.below (drew_below _)).tw.p kA))
                    | (go_at_call 17; refine (poll_aliveU _ w.heap.size w2.heap.size P P' y nn v2 us2 ?_ HFX.out).mono ?_; exact hA.q; rintro e wB ⟨rfl, kB, pB⟩; have hB := Two.right hA kB pB; have sB := BoxAt.all (BoxAt.keptU sA.1 hA.q kB))))
                all_goals
                  go_wp2_with fail
                  go_meet
                  case rel => exact ⟨by simp, P', hB, HAD'.out.trans HT.out.ad⟩
              · have hb5 : (kd == 5) = false := by simpa using h5
                clear h5
                go_wp2_with fail
                go_meet
                case rel => exact ⟨rfl, P, HT.out⟩
        case rest =>
        obtain ⟨w7, rfl⟩ : ∃ w7, w7 = wc := ⟨wc, rfl⟩
        obtain ⟨rfl, P', hs7⟩ := hcut
        have HS7 := Lib.hid hs7
        clear hs7 HT d0 d1 d2
        go_wp2_with fail
        refine (poll_addrs _ w.heap.size w1.heap.size P' HS7.out.tw.p.at_).mono ?_
        rintro e w8 ⟨hb8, vx, rfl, ho8⟩
        have hpl : P'.row.length = AL.length := by rw [← HS7.out.ad]; simp
        rw [hpl] at ho8
        have HC : Hid (Scrub w w8 w1.heap.size w2.heap.size v v2 us us2 AL P' vx) := ⟨HS7.out.below hb8, RowZ.of (own_lower ho8 HS7.out.tw.be.size)⟩
        obtain ⟨Ax, cx, rfl⟩ := own_slice ho8
        clear hb8 ho8 HS7 hpl
        go_wp2_with fail
        go_loopw [16] (fun i wr => ∃ j : Nat, j ≤ AL.length ∧ i = .int .i64 j ∧ Scrub w wr w1.heap.size w2.heap.size v v2 us us2 AL P' (.slice Ax AL.length cx)) (fun i _ => AL.length - (intOf i).toNat)
        case atStart => exact ⟨0, Nat.zero_le _, rfl, HC.out⟩
        case round =>
          obtain ⟨j, hj, rfl, hsc⟩ := hrel
          have HSC := Lib.hid hsc
          clear hsc
          by_cases hjl : j < AL.length
          · obtain ⟨b, c, z, he, h1, h2, h3, h4, hset⟩ := HSC.out.at hjl
            cases he
            have HSET := Lib.hid (hset (.int .u8 0))
            clear hset
            go_wp2_with fail
            go_roundw
            case rel => exact ⟨j + 1, by omega, by go_num, HSET.out⟩
            case measure => simp [intOf]; omega
          · obtain rfl : j = AL.length := by omega
            have HS8 := Lib.hid HSC.out.s
            clear HSC HC
            go_upto_region 28 with fail
            go_cut [122] (fun b w' => b = .bool false ∧ ∃ P', Same w w' w1.heap.size w2.heap.size v v2 us us2 AL P')
            case first =>
              refine wp_region_held_drew (S := fun w' => Same w w' w1.heap.size w2.heap.size v v2 us us2 AL P') (by kernel_rfl) (HS8.out.below (drew_below _)) (fun hS0 => ?_)
              refine wpAnyH_takeD (i := 0) (d := (some 112)) (v := (.bool true)) rfl rfl (by kernel_rfl) (by kernel_rfl) (by kernel_rfl) (fun _ _ _ h => h) (Or.inl ⟨by rfl, fun w hw => by go_simp⟩) hS0 ?_
              try simp only [Act.put, List.setIfInBounds_toArray, List.set_cons_zero, List.set_cons_succ]
              refine wpAnyH_takeD (i := 1) (d := (some 113)) (v := (.bool false)) rfl rfl (by kernel_rfl) (by kernel_rfl) (by kernel_rfl) (fun _ _ _ h => h) (Or.inl ⟨by rfl, fun w hw => by go_simp⟩) hS0 ?_
              try simp only [Act.put, List.setIfInBounds_toArray, List.set_cons_zero, List.set_cons_succ]
              refine wpAnyH_takeD (i := 2) (d := (some 114)) (v := (.bool false)) rfl rfl (by kernel_rfl) (by kernel_rfl) (by kernel_rfl) (fun _ _ _ h => h) (Or.inl ⟨by rfl, fun w hw => by go_simp⟩) hS0 ?_
              try simp only [Act.put, List.setIfInBounds_toArray, List.set_cons_zero, List.set_cons_succ]
              refine wpAnyH_takeD (i := 3) (d := (some 115)) (v := (.pointer (some ⟨w1.heap.size, 0, none⟩))) rfl rfl (by kernel_rfl) (by kernel_rfl) (by kernel_rfl) (fun _ _ _ h => h) (Or.inl ⟨by rfl, fun w hw => by go_simp⟩) hS0 ?_
              try simp only [Act.put, List.setIfInBounds_toArray, List.set_cons_zero, List.set_cons_succ]
              refine wpAnyH_takeD (i := 6) (d := (some 118)) (v := (.pointer (some ⟨w2.heap.size, 0, none⟩))) rfl rfl (by kernel_rfl) (by kernel_rfl) (by kernel_rfl) (fun _ _ _ h => h) (Or.inl ⟨by rfl, fun w hw => by go_simp⟩) hS0 ?_
              try simp only [Act.put, List.setIfInBounds_toArray, List.set_cons_zero, List.set_cons_succ]
              refine wpAnyH_ready (rs := [4]) (by kernel_rfl) (by simp) ?_
              refine AllReadyH.consD (d := (some 116)) rfl rfl (fun K hK => ?_) AllReadyH.nil
              go_simp
              go_at_call 21
              refine (poll_addrsR _ w.heap.size w1.heap.size P' AL hS0.tw.p.at_ hS0.ad HAL.out).mono ?_
              rintro e wA ⟨hbA, AA, cA, rfl, hrA⟩
              go_wp2_with fail
              refine hK.out _ _ (hS0.below hbA) (fun hS1 => ?_)
              clear hK K
              refine wpAnyH_mono (S' := fun w' => Same w w' w1.heap.size w2.heap.size v v2 us us2 AL P' ∧ (convert 22 9 (.slice AA AL.length cA)).run Try.prog w' = .ok (.string ⟨(toB AL).toArray⟩) w') (fun _ h => h.1) ?_
              have hS2 : Same w wA w1.heap.size w2.heap.size v v2 us us2 AL P' ∧ (convert 22 9 (.slice AA AL.length cA)).run Try.prog wA = .ok (.string ⟨(toB AL).toArray⟩) wA := ⟨hS1, conv_bytes _ _ _ hrA⟩
              refine wpAnyH_takeD (i := 5) (d := (some 117)) (v := (.string ⟨(toB AL).toArray⟩)) rfl rfl (by kernel_rfl) (by kernel_rfl) (by kernel_rfl) (fun _ _ _ h => h) (Or.inl ⟨by rfl, fun w hw => by obtain ⟨hw0, hw1⟩ := hw; go_simp⟩) hS2 ?_
              try simp only [Act.put, List.setIfInBounds_toArray, List.set_cons_zero, List.set_cons_succ]
              refine wpAnyH_ready (rs := [7]) (by kernel_rfl) (by simp) ?_
              refine AllReadyH.consD (d := (some 119)) rfl rfl (fun K hK => ?_) AllReadyH.nil
              go_simp
              go_at_call 21
              refine (poll_addrsR _ w.heap.size w2.heap.size P' AL hS1.tw.q.at_ hS1.ad HAL.out).mono ?_
              rintro e wB ⟨hbB, AB, cB, rfl, hrB⟩
              go_wp2_with fail
              refine hK.out _ _ ⟨hS1.below hbB, conv_bytes _ _ _ (hrA.below hbB)⟩ (fun hS3 => ?_)
              clear hK K
              refine wpAnyH_mono (S' := fun w' => Same w w' w1.heap.size w2.heap.size v v2 us us2 AL P' ∧ (convert 22 9 (.slice AA AL.length cA)).run Try.prog w' = .ok (.string ⟨(toB AL).toArray⟩) w' ∧ (convert 22 9 (.slice AB AL.length cB)).run Try.prog w' = .ok (.string ⟨(toB AL).toArray⟩) w') (fun _ h => ⟨h.1, h.2.1⟩) ?_
              have hS4 : Same w wB w1.heap.size w2.heap.size v v2 us us2 AL P' ∧ (convert 22 9 (.slice AA AL.length cA)).run Try.prog wB = .ok (.string ⟨(toB AL).toArray⟩) wB ∧ (convert 22 9 (.slice AB AL.length cB)).run Try.prog wB = .ok (.string ⟨(toB AL).toArray⟩) wB := ⟨hS3.1, hS3.2, conv_bytes _ _ _ hrB⟩
              refine wpAnyH_takeD (i := 8) (d := (some 120)) (v := (.string ⟨(toB AL).toArray⟩)) rfl rfl (by kernel_rfl) (by kernel_rfl) (by kernel_rfl) (fun _ _ _ h => h) (Or.inl ⟨by rfl, fun w hw => by obtain ⟨hw0, hw1, hw2⟩ := hw; go_simp⟩) hS4 ?_
              try simp only [Act.put, List.setIfInBounds_toArray, List.set_cons_zero, List.set_cons_succ]
              refine wpAnyH_takeD (i := 9) (d := (some 121)) (v := (.bool false)) rfl rfl (by kernel_rfl) (by kernel_rfl) (by kernel_rfl) (fun _ _ _ h => h) (Or.inl ⟨by rfl, fun w hw => by obtain ⟨hw0, hw1, hw2⟩ := hw; go_simp⟩) hS4 ?_
              try simp only [Act.put, List.setIfInBounds_toArray, List.set_cons_zero, List.set_cons_succ]
              refine wpAnyH_takeD (i := 10) (d := (some 122)) (v := (.bool false)) rfl rfl (by kernel_rfl) (by kernel_rfl) (by kernel_rfl) (fun _ _ _ h => h) (Or.inl ⟨by rfl, fun w hw => by obtain ⟨hw0, hw1, hw2⟩ := hw; go_simp⟩) hS4 ?_
              try simp only [Act.put, List.setIfInBounds_toArray, List.set_cons_zero, List.set_cons_succ]
              refine wpAnyH_done (by kernel_rfl) ?_ _
              go_wp2_with fail
              go_meet
              case rel => exact ⟨rfl, P', hS3.1⟩
            case rest =>
            obtain ⟨w9, rfl⟩ : ∃ w9, w9 = wc := ⟨wc, rfl⟩
            obtain ⟨rfl, P9, hs9⟩ := hcut
            have HS9 := Lib.hid hs9
            clear hs9 HS8
            go_wp2_with fail
            go_roundw
            case rel => exact ⟨k + 1, by omega, by omega, by go_num, P9, HS9.out⟩
            case measure => simp [intOf]; omega
      · have hd : (decide ((k : Int) < 100)) = false := by simp; omega
        go_wp2_with fail
        go_ret
        exact ⟨rfl, HSM.out.tw.be⟩
    · go_wp2_with fail
      go_ret
      exact ⟨rfl, HSM.out.tw.be⟩
end Go.Proofs.Ytmkbleeideddkaa
