/- The walk of lamplightlaw09.PollAgain. -/
import Derived.Test.YtmkbleeideddkaaPl
set_option linter.unusedVariables false
set_option linter.unusedSimpArgs false
namespace Go.Proofs.Ytmkbleeideddkaa
open Go.RowKit

set_option maxHeartbeats 4000000 in
set_option maxRecDepth 100000 in
theorem pagain_walk (a0 : Option Addr) (len0 cap0 : Nat) (z0 : List Int) (a1 : Int) (a2 : Int) (w : World) (w0 : IsRow8 w a0 len0 cap0 z0) (w1 : (Lit.int .i64 a1).wf = true) (w2 : (Lit.int .u16 a2).wf = true) :
    Calls Try.prog 5 #[.slice a0 len0 cap0, .int .i64 a1, .int .u16 a2] w fun e w' => e = .returned (.bool true) ∧ Below w.heap.size w w' := by
  obtain ⟨m, l, hm1, hm2, hm3, hc1, hc2, hl, hl4, hmin, hrd⟩ := addrs_in w0
  obtain ⟨q, hq, hq2⟩ := and_i64 a1 65535 (by omega)
  have hq' : bits BinOp.and IntKind.i64 a1 65535 = (q : Int) := hq
  obtain ⟨T, hT, hT2⟩ : ∃ T : Nat, a2 = (T : Int) ∧ T ≤ 65535 := by
    have := bounds_u16 w2
    exact ⟨a2.toNat, by omega, by omega⟩
  subst hT
  have HQ := Lib.hid hq'
  have HRD := Lib.hid hrd
  clear w0 w1 w2 hq hq' hrd
  go_enter Try.func5, Try.ntmps5
  go_wp2_with fail
  refine (shown_any _).mono ?_
  rintro e w1 ⟨rfl, hb1⟩
  have HB1 := Lib.hid hb1
  clear hb1
  go_wp2_with fail
  refine (poll_new _ (.slice a0 m cap0) l (HRD.out.below HB1.out) hl4 (cap_lit (by omega))).mono ?_
  rintro e w2 ⟨rfl, hb2, hs2⟩
  obtain ⟨P0, hP0⟩ : ∃ P, P = newF (intsOf l) := ⟨_, rfl⟩
  have hgood : Good P0.row := by rw [hP0]; exact newF_good _
  have hfresh : ∀ p ∈ P0.row, p.dead = false := by rw [hP0]; exact fun p hp => (newF_fresh _ p hp).1
  have ht0 : P0.turn = 0 := by rw [hP0]; rfl
  rw [← hP0] at hs2
  have HB2 := Lib.hid hb2
  have HS2 := Lib.hid hs2
  have HG := Lib.hid hgood
  have HF := Lib.hid hfresh
  have HT0 := Lib.hid ht0
  clear hb2 hs2 hP0 hgood hfresh ht0 hmin
  go_wp2_with fail
  refine (poll_addrs _ w1.heap.size w1.heap.size P0 HS2.out).mono ?_
  rintro e w3 ⟨hb3, va, rfl, ho3⟩
  obtain ⟨A, c, rfl⟩ := own_slice ho3
  have HA3 := Lib.hid (PAll.start HB1.out HB2.out HS2.out hb3 ho3)
  obtain ⟨L, t0⟩ := P0
  have hn40 : L.length ≤ 40 := by obtain ⟨_, _, hin⟩ := HS2.out; exact hin.n40
  simp only [] at HG HF HT0 HA3 ⊢
  obtain rfl : t0 = 0 := HT0.out
  clear hb3 ho3 HB2 HS2 HT0 HB1 HRD
  go_upto_region 6 with fail
  have hg1 : w.heap.size ≤ w1.heap.size := by obtain ⟨_, _, hin⟩ := HA3.out.po; exact hin.ge
  by_cases hz : L.length = 0
  · have hzi : ¬ 0 < L.length := by omega
    have hzd : decide ((L.length : Int) = 0) = true := by simpa using hz
    clear hz
    go_wp2_with fail
    go_ret
    exact ⟨rfl, HA3.out.be⟩
  · have hzi : ¬ ((L.length : Int) = 0) := by omega
    have hpos : 0 < L.length := by omega
    obtain ⟨i0, hi1, hi2, hi3⟩ : ∃ i0 : Nat, (q : Int).tmod (L.length : Int) = (i0 : Int) ∧ (q : Int) % (L.length : Int) = (i0 : Int) ∧ i0 < L.length := ⟨q % L.length, (Int.ofNat_tmod _ _).symm, (Int.natCast_emod _ _).symm, Nat.mod_lt _ hpos⟩
    obtain ⟨p0, hp⟩ : ∃ p, L[i0]? = some p := ⟨_, List.getElem?_eq_getElem hi3⟩
    obtain ⟨gr, rfl, -, -, hcell⟩ := own_cell HA3.out.al hi3 (addrV_get hp)
    have HP := Lib.hid hp
    have hqq := HQ.out
    clear hp
    go_wp2_with fail
    clear hqq hi1 hi2 hcell
    refine (poll_dead _ w.heap.size w1.heap.size ⟨L, 0⟩ ⟨L.modify i0 (deadP T), 0⟩ p0.addr T 0 HA3.out.po ⟨by omega, by omega⟩ ?hF).mono ?_
    case hF =>
      unfold PS.dead
      rw [find_at HG.out.2 HP.out]
      rfl
    rintro e w4 ⟨rfl, hk4, hp4⟩
    have HA4 := Lib.hid (HA3.out.kept hk4 hp4)
    clear hk4 hp4
    go_wp2_with fail
    refine (poll_is _ w.heap.size w1.heap.size ⟨L.modify i0 (deadP T), 0⟩ p0.addr HA4.out.po).mono ?_
    have his : PS.is ⟨L.modify i0 (deadP T), 0⟩ p0.addr = false := by
      unfold PS.is
      have h2 := modify_self (deadP T) HP.out
      have h1 : findF (L.modify i0 (deadP T)) p0.addr = some i0 := find_at (p := deadP T p0) (by rw [modify_addr _ _ (deadP T) fun p => rfl]; exact HG.out.2) h2
      simp only [h1, h2]
      rfl
    rw [his]
    clear his
    rintro e w5 ⟨rfl, hb5⟩
    have HA5 := Lib.hid (HA4.out.below hb5)
    clear hb5
    go_wp2_with fail
    go_loopw [12] (fun i wr => ∃ k : Nat, k ≤ 101 ∧ i = .int .i64 k ∧ ∃ t, t ≤ L.length ∧ PAll w wr w1.heap.size (.slice (some ⟨gr, 0, none⟩) L.length c) L ⟨L.modify i0 (deadP (sinceK T k : Nat)), t⟩) (fun i _ => 101 - (intOf i).toNat)
    case atStart => exact ⟨0, Nat.zero_le _, rfl, 0, Nat.zero_le _, HA5.out⟩
    case round =>
      obtain ⟨k, hk, rfl, t, ht, hpa⟩ := hrel
      have HPA := Lib.hid hpa
      clear hpa
      by_cases hlt : k ≤ 100
      · obtain ⟨r, hr1, hr2, hr3⟩ : ∃ r : Nat, (k : Int).tmod 20 = (r : Int) ∧ (k : Int) % 20 = (r : Int) ∧ r = k % 20 := ⟨k % 20, (Int.ofNat_tmod k 20).symm, by omega, rfl⟩
        have HR3 := Lib.hid hr3
        clear hr3
        by_cases hd : 0 < k ∧ r = 0
        · obtain ⟨hd1, rfl⟩ := hd
          have hs : sinceK T (k + 1) = T + k := by
            have := HR3.out
            unfold sinceK
            omega
          have hdu : 20 ≤ ((T : Int) + (k : Int)) - (sinceK T k : Nat) := by
            have := HR3.out
            unfold sinceK
            omega
          have HNX := Lib.hid (again_due (t := t) HF.out HP.out hdu)
          have HS := Lib.hid hs
          clear hs hdu
          go_wp2_with fail
          refine (poll_next _ w.heap.size w1.heap.size _ _ ((T : Int) + (k : Int)) _ _ HPA.out.po ⟨by omega, by omega⟩ HNX.out).mono ?_
          rintro e w6 ⟨rfl, hk6, hp6⟩
          have HN := Lib.hid (HPA.out.kept hk6 hp6)
          clear hk6 hp6
          go_wp2_with fail
          go_roundw
          case rel =>
            refine ⟨k + 1, by omega, by go_num, t, ht, ?_⟩
            rw [HS.out]
            exact HN.out
          case measure => simp [intOf]; omega
        · have hs : sinceK T (k + 1) = sinceK T k := by
            have := HR3.out
            unfold sinceK
            omega
          have hdu : ((T : Int) + (k : Int)) - (sinceK T k : Nat) < 20 := by
            have := HR3.out
            unfold sinceK
            omega
          obtain ⟨x, ok, t', hnx, ht', hne, hok⟩ := again_not HF.out HG.out.2 HP.out hdu ht
          have HNX := Lib.hid hnx
          have HS := Lib.hid hs
          clear hs hdu hnx
          have hcase : (¬ 0 < k) ∨ (0 < k ∧ ¬ r = 0) := by omega
          cases ok with
          | true =>
            have hL1 : 1 < L.length := hok.1 rfl
            have hxa : (x == p0.addr) = false := by simpa using hne rfl
            have hLd : decide ((1 : Int) < (L.length : Int)) = true := by simp; omega
            clear hok hne hd
            rcases hcase with hk0 | ⟨hk0, hr0⟩
            · clear hr1 hr2
              go_wp2_with fail
              refine (poll_next _ w.heap.size w1.heap.size _ _ ((T : Int) + (k : Int)) _ _ HPA.out.po ⟨by omega, by omega⟩ HNX.out).mono ?_
              rintro e w6 ⟨rfl, hk6, hp6⟩
              have HN := Lib.hid (HPA.out.kept hk6 hp6)
              clear hk6 hp6
              go_wp2_with fail
              go_roundw
              case rel =>
                refine ⟨k + 1, by omega, by go_num, t', ht', ?_⟩
                rw [HS.out]
                exact HN.out
              case measure => simp [intOf]; omega
            · have hrb : ((r : Int) == 0) = false := by simpa using hr0
              go_wp2_with fail
              refine (poll_next _ w.heap.size w1.heap.size _ _ ((T : Int) + (k : Int)) _ _ HPA.out.po ⟨by omega, by omega⟩ HNX.out).mono ?_
              rintro e w6 ⟨rfl, hk6, hp6⟩
              have HN := Lib.hid (HPA.out.kept hk6 hp6)
              clear hk6 hp6
              go_wp2_with fail
              go_roundw
              case rel =>
                refine ⟨k + 1, by omega, by go_num, t', ht', ?_⟩
                rw [HS.out]
                exact HN.out
              case measure => simp [intOf]; omega
          | false =>
            have hL1 : ¬ 1 < L.length := fun h => by cases hok.2 h
            have hLd : decide ((1 : Int) < (L.length : Int)) = false := by simp; omega
            clear hok hne hd
            rcases hcase with hk0 | ⟨hk0, hr0⟩
            · clear hr1 hr2
              go_wp2_with fail
              refine (poll_next _ w.heap.size w1.heap.size _ _ ((T : Int) + (k : Int)) _ _ HPA.out.po ⟨by omega, by omega⟩ HNX.out).mono ?_
              rintro e w6 ⟨rfl, hk6, hp6⟩
              have HN := Lib.hid (HPA.out.kept hk6 hp6)
              clear hk6 hp6
              go_wp2_with fail
              go_roundw
              case rel =>
                refine ⟨k + 1, by omega, by go_num, t', ht', ?_⟩
                rw [HS.out]
                exact HN.out
              case measure => simp [intOf]; omega
            · have hrb : ((r : Int) == 0) = false := by simpa using hr0
              go_wp2_with fail
              refine (poll_next _ w.heap.size w1.heap.size _ _ ((T : Int) + (k : Int)) _ _ HPA.out.po ⟨by omega, by omega⟩ HNX.out).mono ?_
              rintro e w6 ⟨rfl, hk6, hp6⟩
              have HN := Lib.hid (HPA.out.kept hk6 hp6)
              clear hk6 hp6
              go_wp2_with fail
              go_roundw
              case rel =>
                refine ⟨k + 1, by omega, by go_num, t', ht', ?_⟩
                rw [HS.out]
                exact HN.out
              case measure => simp [intOf]; omega
      · obtain rfl : k = 101 := by omega
        obtain ⟨s, hs⟩ : ∃ s : Int, s = (sinceK T 101 : Nat) := ⟨_, rfl⟩
        rw [← hs] at HPA
        clear hs
        obtain ⟨R, hR⟩ : ∃ R, R = (L.modify i0 (deadP s)).modify i0 backP := ⟨_, rfl⟩
        have hRl : R.length = L.length := by rw [hR]; simp
        have hRf : ∀ p ∈ R, p.dead = false := by rw [hR]; exact back_fresh HF.out s
        have hRa : R.map PP.addr = L.map PP.addr := by rw [hR]; exact back_addr L i0 s
        have hRo : ownF R = L.map PP.addr := by rw [own_fresh hRf, hRa]
        have hRi : findF R p0.addr = some i0 := find_at (p := backP (deadP s p0)) (by rw [hRa]; exact HG.out.2) (by rw [hR]; exact modify_self backP (modify_self (deadP s) HP.out))
        have hRg : R[i0]? = some (backP (deadP s p0)) := by rw [hR]; exact modify_self backP (modify_self (deadP s) HP.out)
        have hal : PS.alive ⟨L.modify i0 (deadP s), t⟩ p0.addr = (0, ⟨R, t⟩) := by
          unfold PS.alive
          have h1 : findF (L.modify i0 (deadP s)) p0.addr = some i0 := find_at (p := deadP s p0) (by rw [modify_addr _ _ (deadP s) fun p => rfl]; exact HG.out.2) (modify_self (deadP s) HP.out)
          simp only [h1]
          rw [hR]
          rfl
        have his : PS.is ⟨R, t⟩ p0.addr = true := by
          unfold PS.is
          simp only [hRi, hRg]
          rfl
        have HRL := Lib.hid hRl
        have HRF := Lib.hid hRf
        have HRO := Lib.hid hRo
        have HAL := Lib.hid hal
        have HIS := Lib.hid his
        clear hR hRl hRf hRa hRo hRi hRg hal his
        go_wp2_with fail
        refine (poll_alive _ w.heap.size w1.heap.size _ _ p0.addr 0 HPA.out.po HAL.out).mono ?_
        rintro e w6 ⟨rfl, hk6, hp6⟩
        have HN6 := Lib.hid (HPA.out.kept hk6 hp6)
        clear hk6 hp6
        go_wp2_with fail
        refine (poll_is _ w.heap.size w1.heap.size ⟨R, t⟩ p0.addr HN6.out.po).mono ?_
        rw [HIS.out]
        rintro e w7 ⟨rfl, hb7⟩
        have HN7 := Lib.hid (HN6.out.below hb7)
        clear hb7 HN6 HPA
        have hct : cnt R t ≤ L.length := by
          unfold cnt
          have h1 := HRL.out
          exact Nat.le_trans (List.length_filter_le _ _) (by rw [List.length_take]; omega)
        obtain ⟨c0, hc0⟩ : ∃ c0, c0 = cnt R t := ⟨_, rfl⟩
        rw [← hc0] at hct
        have HC0 := Lib.hid hc0
        clear hc0
        go_wp2_with fail
        go_loopw [16, 17] (fun u i wr => ∃ k : Nat, k ≤ L.length ∧ i = .int .i64 k ∧ u = .bool (seenF c0 L.length i0 k) ∧ ∃ t2, t2 ≤ L.length ∧ cnt R t2 % L.length = (c0 + k) % L.length ∧ PAll w wr w1.heap.size (.slice (some ⟨gr, 0, none⟩) L.length c) L ⟨R, t2⟩) (fun _ i _ => L.length - (intOf i).toNat)
        case atStart => exact ⟨0, Nat.zero_le _, rfl, rfl, t, ht, by rw [HC0.out]; rfl, HN7.out⟩
        case round =>
          obtain ⟨k, hk, rfl, rfl, t2, ht2, hct2, hpa⟩ := hrel
          have HPA := Lib.hid hpa
          have HCT := Lib.hid hct2
          clear hpa hct2
          by_cases hlt : k < L.length
          · obtain ⟨y, t3, hy, hny, ht3, hc3⟩ : ∃ (y : Int) (t3 : Nat), (L.map PP.addr)[(c0 + k) % L.length]? = some y ∧ PS.next ⟨R, t2⟩ ((T : Int) + 101) = (y, true, ⟨R, t3⟩) ∧ t3 ≤ L.length ∧ cnt R t3 = (c0 + k) % L.length + 1 := by
              rcases next_alive ⟨R, t2⟩ ((T : Int) + 101) (due_fresh HRF.out _) (by rw [HRL.out]; exact ht2) with ⟨h1, h2⟩ | ⟨x, t', h1, h2, h3, h4, h5⟩
              · exfalso
                have h6 : ownF R = [] := h1
                rw [HRO.out] at h6
                have h7 := congrArg List.length h6
                simp at h7
                subst h7
                simp at hpos
              · have h2' : (ownF R)[cnt R t2 % (ownF R).length]? = some x := h2
                have h5' : cnt R t' = cnt R t2 % (ownF R).length + 1 := h5
                rw [HRO.out, List.length_map, HCT.out] at h2' h5'
                exact ⟨x, t', h2', h3, by have := HRL.out; have h4' : t' ≤ R.length := h4; omega, h5'⟩
            have hyi : y = p0.addr ↔ (c0 + k) % L.length = i0 := by
              have hpm : (L.map PP.addr)[i0]? = some p0.addr := by simp [HP.out]
              constructor
              · rintro rfl
                exact nodup_inj' HG.out.2 hy hpm
              · intro h
                rw [h, hpm] at hy
                injection hy with hy
                exact hy.symm
            have hcm : cnt R t3 % L.length = (c0 + (k + 1)) % L.length := by
              rw [hc3, Nat.mod_add_mod]
              rfl
            have hsn : seenF c0 L.length i0 (k + 1) = (seenF c0 L.length i0 k || decide (y = p0.addr)) := by
              simp only [seenF, hyi]
            obtain ⟨sb, hsb⟩ : ∃ sb, sb = seenF c0 L.length i0 k := ⟨_, rfl⟩
            rw [← hsb] at hsn ⊢
            have HNY := Lib.hid hny
            have HCM := Lib.hid hcm
            have HSN := Lib.hid hsn
            clear hny hcm hsn hsb hc3 hy hyi
            go_wp2_with fail
            refine (poll_next _ w.heap.size w1.heap.size ⟨R, t2⟩ _ ((T : Int) + 101) _ _ HPA.out.po ⟨by omega, by omega⟩ HNY.out).mono ?_
            rintro e w8 ⟨rfl, hk8, hp8⟩
            have HN8 := Lib.hid (HPA.out.kept hk8 hp8)
            clear hk8 hp8
            cases sb with
            | true =>
              go_wp2_with fail
              go_roundw
              case rel => exact ⟨k + 1, by omega, by go_num, by rw [HSN.out]; simp, t3, ht3, HCM.out, HN8.out⟩
              case measure => simp [intOf]; omega
            | false =>
              by_cases hyp : y = p0.addr
              · subst hyp
                go_wp2_with fail
                go_roundw
                case rel => exact ⟨k + 1, by omega, by go_num, by rw [HSN.out]; simp, t3, ht3, HCM.out, HN8.out⟩
                case measure => simp [intOf]; omega
              · go_wp2_with fail
                go_roundw
                case rel => exact ⟨k + 1, by omega, by go_num, by rw [HSN.out]; simp [hyp], t3, ht3, HCM.out, HN8.out⟩
                case measure => simp [intOf]; omega
          · obtain rfl : k = L.length := by omega
            rw [seenF_all hct hi3]
            go_wp2_with fail
            go_ret
            exact ⟨rfl, HPA.out.be⟩
end Go.Proofs.Ytmkbleeideddkaa
