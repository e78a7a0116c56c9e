/- The walk of lamplightlaw09.PollDead. -/
import Derived.Test.YtmkbleeideddkaaPo
import Derived.Deep.CutBlock
set_option linter.unusedVariables false
set_option linter.unusedSimpArgs false
namespace Go.Proofs.Ytmkbleeideddkaa
open Go.RowKit

set_option maxHeartbeats 4000000 in
set_option maxRecDepth 100000 in
theorem pdead_walk (a0 : Option Addr) (len0 cap0 : Nat) (z0 : List Int) (a1 : Option Addr) (len1 cap1 : Nat) (z1 : List Int) (w : World) (w0 : IsRow8 w a0 len0 cap0 z0) (w1 : IsRow8 w a1 len1 cap1 z1) :
    Calls Try.prog 7 #[.slice a0 len0 cap0, .slice a1 len1 cap1] w fun e w' => e = .returned (.bool true) ∧ Below w.heap.size w w' := by
  obtain ⟨m, l, hm1, hm2, hm3, hc1, hc2, hl, hl4, hmin, hrd⟩ := addrs_in w0
  obtain ⟨hb1, hb2, f, hf255, hbf⟩ := bytes_fun w1
  have HRD := Lib.hid hrd
  have HBF := Lib.hid hbf
  clear w0 w1 hrd hbf
  go_enter Try.func7, Try.ntmps7
  go_wp2_with fail
  refine (shown_any _).mono ?_
  rintro e w1 ⟨rfl, hb1⟩
  have HB1 := Lib.hid hb1
  clear hb1
  go_wp2_with fail
  refine (poll_new _ (.slice a0 m cap0) l (HRD.out.below HB1.out) hl4 (cap_lit (by omega))).mono ?_
  rintro e w2 ⟨rfl, hb2, hs2⟩
  obtain ⟨P0, hP0⟩ : ∃ P, P = newF (intsOf l) := ⟨_, rfl⟩
  have hgood : Good P0.row := by rw [hP0]; exact newF_good _
  have hfresh : ∀ p ∈ P0.row, p.dead = false := by rw [hP0]; exact fun p hp => (newF_fresh _ p hp).1
  have ht0 : P0.turn = 0 := by rw [hP0]; rfl
  rw [← hP0] at hs2
  have HB2 := Lib.hid hb2
  have HS2 := Lib.hid hs2
  have HG := Lib.hid hgood
  have HF := Lib.hid hfresh
  have HT0 := Lib.hid ht0
  clear hb2 hs2 hP0 hgood hfresh ht0 hmin
  go_wp2_with fail
  refine (poll_addrs _ w1.heap.size w1.heap.size P0 HS2.out).mono ?_
  rintro e w3 ⟨hb3, va, rfl, ho3⟩
  obtain ⟨A, c, rfl⟩ := own_slice ho3
  have HA3 := Lib.hid (PAll.start HB1.out HB2.out HS2.out hb3 ho3)
  obtain ⟨L, t0⟩ := P0
  have hn40 : L.length ≤ 40 := by obtain ⟨_, _, hin⟩ := HS2.out; exact hin.n40
  simp only [] at HG HF HT0 HA3 ⊢
  obtain rfl : t0 = 0 := HT0.out
  clear hb3 ho3 HB2 HS2 HT0 HB1 HRD
  have hg1 : w.heap.size ≤ w1.heap.size := by obtain ⟨_, _, hin⟩ := HA3.out.po; exact hin.ge
  go_upto_region 6 with fail
  by_cases hz : L.length = 0
  · have hzi : ¬ 0 < L.length := by omega
    have hzb : ((L.length : Int) == 0) = true := by simpa using hz
    have hzl : L = [] := List.length_eq_zero_iff.1 hz
    clear hz
    go_wp2_with fail
    go_ret
    exact ⟨rfl, HA3.out.be⟩
  · have hzb : ((L.length : Int) == 0) = false := by simpa using hz
    have hzl : ¬ L = [] := fun e => hz (by rw [e]; rfl)
    have hpos : 0 < L.length := by omega
    by_cases h6 : 6 < L.length
    · have h6d : decide ((L.length : Int) > 6) = true := by simp; omega
      have h6e : (6 : Int) < (L.length : Int) := by omega
      clear hz
      go_wp2_with fail
      go_ret
      exact ⟨rfl, HA3.out.be⟩
    · have h6e : ¬ (6 : Int) < (L.length : Int) := by omega
      have hle6 : L.length ≤ 6 := by omega
      clear hz
      obtain ⟨gap, hgap⟩ : ∃ gap : Nat → Nat, gap = fun i => if i < len1 then f i % 4 else 0 := ⟨_, rfl⟩
      have hg3 : ∀ i, gap i ≤ 3 := by
        intro i
        rw [hgap]
        simp only []
        split <;> omega
      have HGAP := Lib.hid hgap
      have HG3 := Lib.hid hg3
      clear hgap hg3
      go_wp2_with fail
      obtain ⟨C, hC⟩ : ∃ C, C = w3.heap.size := ⟨_, rfl⟩
      have HC := Lib.hid hC
      clear hC
      go_loopw [8, 9, 10] (fun u o i wr => ∃ k : Nat, k ≤ L.length ∧ i = .int .i64 k ∧ u = .int .i64 (nowG gap k : Nat) ∧ TDie w wr w1.heap.size (.slice A L.length c) L ⟨rowD L k (diedG gap), 0⟩ C o k (diedV gap k)) (fun _ _ i _ => L.length - (intOf i).toNat)
      case atStart =>
        refine ⟨0, Nat.zero_le _, rfl, rfl, ?_, World.ownsRow_nil _ _ _ _, by rw [HC.out]; exact HA3.out.be.size, by rw [HC.out]; exact Nat.le_refl _, fun b hb => by rw [HC.out]; exact (own_lt HA3.out.al b hb).2⟩
        rw [rowD_zero]
        exact HA3.out
      case round =>
        obtain ⟨k, hk, rfl, rfl, hto⟩ := hrel
        have HTO := Lib.hid hto
        clear hto
        by_cases hlt : k < L.length
        · obtain ⟨p, hp⟩ : ∃ p, L[k]? = some p := ⟨_, List.getElem?_eq_getElem hlt⟩
          obtain ⟨gr, rfl, -, -, hcell0⟩ := own_cell HTO.out.pa.al hlt (addrV_get hp)
          have HP := Lib.hid hp
          have hnk : nowG gap k ≤ 3 * k := by have := nowG_le HG3.out (a := 0) k (Nat.zero_le _); simp only [nowG] at this; omega
          obtain ⟨nk, hnk2⟩ : ∃ nk, nk = nowG gap k := ⟨_, rfl⟩
          rw [← hnk2] at hnk
          simp only [← hnk2]
          obtain ⟨nn, hnn⟩ : ∃ nn, nn = nowG gap (k + 1) := ⟨_, rfl⟩
          have hgk := HG3.out k
          have hnn1 : nn = nk + gap k := by rw [hnn, hnk2]; rfl
          have HNN := Lib.hid hnn
          obtain ⟨Ao, co, rfl⟩ := own_slice HTO.out.ow
          obtain ⟨i0, hi, hz0, hz1, hz2⟩ := info_parts Try.info3
          have hwl : C ≤ wr.heap.size := HTO.out.sz
          clear hp hcell0 hnn hnk2
          go_upto_if 46 with fail
          go_cut [8] (fun u w' => u = .int .i64 nn ∧ w' = wr)
          case first =>
            by_cases hj1 : k < len1
            · obtain ⟨ad, rfl⟩ : ∃ ad, a1 = some ad := by
                cases a1 with
                | none => have := hb2 rfl; omega
                | some ad => exact ⟨ad, rfl⟩
              have hcb := HBF.out _ HTO.out.pa.be ad rfl k hj1
              have hgk2 : gap k = f k % 4 := by rw [HGAP.out]; simp [hj1]
              have hfk := hf255 k
              obtain ⟨fk, hfk2⟩ : ∃ fk, fk = f k := ⟨_, rfl⟩
              rw [← hfk2] at hcb hgk2 hfk
              obtain ⟨r, hr1, hr2, hr3⟩ : ∃ r : Nat, (fk : Int).tmod 4 = (r : Int) ∧ (fk : Int) % 4 = (r : Int) ∧ r = fk % 4 := ⟨fk % 4, (Int.ofNat_tmod fk 4).symm, by omega, rfl⟩
              have hnr : nn = nk + r := by omega
              have HNR := Lib.hid hnr
              have hr33 : r ≤ 3 := by omega
              clear hgk2 hfk2 hr3 hnr hnn1
              go_wp2_with fail
              go_meet
              case rel => exact ⟨by rw [HNR.out]; go_num, rfl⟩
            · have hgk2 : gap k = 0 := by rw [HGAP.out]; simp [hj1]
              have HNR : Hid (nn = nk) := by unfold Hid; omega
              clear hgk2 hnn1
              go_wp2_with fail
              go_meet
              case rel => exact ⟨by rw [HNR.out], rfl⟩
          case rest =>
          obtain ⟨rfl, rfl⟩ := hcut
          have hnn3 : nn ≤ 3 * (k + 1) := by omega
          clear hnn1
          go_wp2_with (at_builtin; go_loud (refine wpList_append_own _ rfl (.tmp 55) (.tmp 57) 49 rfl C 3 i0 (.int .i64 0) 1 8 Try.underlying49 hi hz0 hz1 hz2 rfl (by decide) (.slice Ao k co) k (diedV gap k) rfl ?_ ⟨wc.heap.size, 0, none⟩ 1 1 [.int .i64 nn] rfl rfl ?_ ?_ ?_ ?_ ?_ ?_))
          · exact own_below HTO.out.ow ((Below.refl _ _).alloc (Nat.le_refl _) _)
          · exact news_one (blk_new _ _)
          · simp [Value.oneCell']
          · unfold maxLen; omega
          · omega
          · simp; omega
          intro v3 w5 ho3 hg3 _
          have hdg : nn = diedG gap k := HNN.out
          rw [hdg, ← diedV_succ] at ho3
          have hn := (HTO.out.below ((Below.refl _ _).alloc (Nat.le_refl _) (.cells #[.int .i64 nn] 3))).push hg3 (n2 := k + 1) ho3
          have HN := Lib.hid hn
          have HDG := Lib.hid hdg
          obtain ⟨A3, c3, rfl⟩ := own_slice ho3
          obtain ⟨gr', e, -, -, hcell5⟩ := own_cell hn.pa.al hlt (addrV_get HP.out)
          cases e
          clear ho3 hg3 hn hdg
          go_wp2_with fail
          refine (poll_dead _ w.heap.size w1.heap.size ⟨rowD L k (diedG gap), 0⟩ ⟨rowD L (k + 1) (diedG gap), 0⟩ p.addr nn 0 HN.out.pa.po ⟨by omega, by omega⟩ ?hF).mono ?_
          case hF =>
            have hat : (rowD L k (diedG gap))[k]? = some p := by rw [rowD_get, HP.out]; simp
            have h1 : findF (rowD L k (diedG gap)) p.addr = some k := find_at (by rw [rowD_addr]; exact HG.out.2) hat
            unfold PS.dead
            simp only [h1]
            rw [← rowD_step, HDG.out]
            rfl
          rintro e w6 ⟨rfl, hk6, hp6⟩
          have HN6 := Lib.hid (HN.out.kept hk6 hp6)
          clear hk6 hp6
          go_wp2_with fail
          go_roundw
          case rel => exact ⟨k + 1, by omega, by go_num, by rw [HNN.out], HN6.out⟩
          case measure => simp [intOf]; omega
        · obtain rfl : k = L.length := by omega
          obtain ⟨Ao, co, rfl⟩ := own_slice HTO.out.ow
          obtain ⟨nk, hnk2⟩ : ∃ nk, nk = nowG gap L.length := ⟨_, rfl⟩
          have hnk : nk ≤ 18 := by
            have := nowG_le HG3.out (a := 0) L.length (Nat.zero_le _)
            simp only [nowG] at this
            omega
          have hto := HTO.out
          rw [died_start HG3.out hle6, ← hnk2] at hto
          have hdl : ∀ j, j < L.length → diedG gap j ≤ nk := fun j hj => by rw [hnk2]; exact died_le HG3.out hj (Nat.le_refl _)
          have HDL := Lib.hid hdl
          have HTO2 := Lib.hid hto
          obtain ⟨D, hD⟩ : ∃ D, D = diedG gap := ⟨_, rfl⟩
          have HVG := Lib.hid (fun (j : Nat) (hj : j < L.length) => diedV_get gap hj)
          rw [← hD] at HDL HTO2 HVG
          simp only [← hnk2]
          clear hnk2 hto hdl hD HTO
          go_wp2_with fail
          go_loopw [11] (fun i wr => ∃ k : Nat, nk ≤ k ∧ k ≤ nk + 100 ∧ i = .int .i64 k ∧ TDie w wr w1.heap.size (.slice A L.length c) L ⟨rowD L L.length (sK D k 0), 0⟩ C (.slice Ao L.length co) L.length (diedV gap L.length)) (fun i _ => nk + 100 - (intOf i).toNat)
          case atStart => exact ⟨nk, Nat.le_refl _, by omega, rfl, HTO2.out⟩
          case round =>
            obtain ⟨k, hk1, hk2, rfl, hto⟩ := hrel
            have HTO3 := Lib.hid hto
            have hdk : ∀ j, j < L.length → D j ≤ k := fun j hj => Nat.le_trans (HDL.out j hj) hk1
            have HDK := Lib.hid hdk
            clear hto hdk
            by_cases hlt2 : k < nk + 100
            · have hltd : decide ((k : Int) < (nk : Int) + 100) = true := by simp; omega
              go_wp2_with fail
              go_loopw [12] (fun i wr => ∃ j : Nat, j ≤ L.length ∧ i = .int .i64 j ∧ TDie w wr w1.heap.size (.slice A L.length c) L ⟨rowD L L.length (sK D k j), 0⟩ C (.slice Ao L.length co) L.length (diedV gap L.length)) (fun i _ => L.length - (intOf i).toNat)
              case atStart => exact ⟨0, Nat.zero_le _, rfl, HTO3.out⟩
              case round =>
                obtain ⟨j, hj, rfl, hto⟩ := hrel
                have HTO4 := Lib.hid hto
                clear hto
                by_cases hlt3 : j < L.length
                · obtain ⟨gd, rfl, -, -, hcd⟩ := own_cell HTO4.out.ow hlt3 (HVG.out j hlt3)
                  obtain ⟨d, hd⟩ : ∃ d, d = D j := ⟨_, rfl⟩
                  have hdk := HDK.out j hlt3
                  rw [← hd] at hcd hdk
                  obtain ⟨r, hr1, hr2, hr3⟩ : ∃ r : Nat, ((k : Int) - (d : Int)).tmod 20 = (r : Int) ∧ ((k : Int) - (d : Int)) % 20 = (r : Int) ∧ r = (k - d) % 20 := by
                    refine ⟨(k - d) % 20, ?_, by omega, rfl⟩
                    rw [show ((k : Int) - (d : Int)) = ((k - d : Nat) : Int) by omega]
                    exact (Int.ofNat_tmod _ 20).symm
                  have HR3 := Lib.hid hr3
                  have HD := Lib.hid hd
                  clear hr3 hd
                  by_cases hkd : k = d
                  · have hkb : ((k : Int) == (d : Int)) = true := by simp; omega
                    have hsk := Lib.hid (sK_skip (D := D) (k := k) (i := j) (L := L) (by rw [← HD.out]; exact hdk) (.inl (by rw [← HD.out]; exact hkd)))
                    clear hkd
                    go_wp2_with fail
                    go_roundw
                    case rel => exact ⟨j + 1, by omega, by go_num, by rw [hsk.out]; exact HTO4.out⟩
                    case measure => simp [intOf]; omega
                  · have hkb : ((k : Int) == (d : Int)) = false := by simp; omega
                    by_cases hr0 : r = 0
                    · obtain ⟨p, hp⟩ : ∃ p, L[j]? = some p := ⟨_, List.getElem?_eq_getElem hlt3⟩
                      obtain ⟨gr, rfl, -, -, hcell0⟩ := own_cell HTO4.out.pa.al hlt3 (addrV_get hp)
                      have hn := sK_hit (D := D) (k := k) (i := j) (L := L) hp HDK.out (by rw [← HD.out]; exact hkd) (by rw [← HD.out, ← HR3.out]; exact hr0)
                      have HNX := Lib.hid hn
                      have HP := Lib.hid hp
                      have hrb : ((r : Int) == 0) = true := by simpa using hr0
                      clear hn hp hkd hr0 hcell0
                      go_wp2_with fail
                      refine (poll_next _ w.heap.size w1.heap.size _ _ (k : Int) _ _ HTO4.out.pa.po ⟨by omega, by omega⟩ HNX.out).mono ?_
                      rintro e w6 ⟨rfl, hk6, hp6⟩
                      have hn := HTO4.out.kept hk6 hp6
                      have HN6 := Lib.hid hn
                      obtain ⟨gr', e, -, -, hcell5⟩ := own_cell hn.pa.al hlt3 (addrV_get HP.out)
                      cases e
                      clear hk6 hp6 hn
                      go_wp2_with fail
                      go_roundw
                      case rel => exact ⟨j + 1, by omega, by go_num, HN6.out⟩
                      case measure => simp [intOf]; omega
                    · have hrb : ((r : Int) == 0) = false := by simpa using hr0
                      have hsk := Lib.hid (sK_skip (D := D) (k := k) (i := j) (L := L) (by rw [← HD.out]; exact hdk) (.inr (by rw [← HD.out, ← HR3.out]; exact hr0)))
                      clear hkd hr0
                      go_wp2_with fail
                      go_roundw
                      case rel => exact ⟨j + 1, by omega, by go_num, by rw [hsk.out]; exact HTO4.out⟩
                      case measure => simp [intOf]; omega
                · obtain rfl : j = L.length := by omega
                  have HNX := Lib.hid (sK_none (D := D) (k := k) (L := L) HDK.out)
                  go_wp2_with fail
                  refine (poll_next _ w.heap.size w1.heap.size _ _ (k : Int) _ _ HTO4.out.pa.po ⟨by omega, by omega⟩ HNX.out).mono ?_
                  rintro e w6 ⟨rfl, hk6, hp6⟩
                  have hn := HTO4.out.kept hk6 hp6
                  rw [sK_next] at hn
                  have HN6 := Lib.hid hn
                  clear hk6 hp6 hn
                  go_wp2_with fail
                  go_roundw
                  case rel => exact ⟨k + 1, by omega, by omega, by go_num, HN6.out⟩
                  case measure => simp [intOf]; omega
            · go_wp2_with fail
              go_ret
              exact ⟨rfl, HTO3.out.pa.be⟩
end Go.Proofs.Ytmkbleeideddkaa
