/- The walk of lamplightlaw09.PollTurns. -/
import Derived.Test.YtmkbleeideddkaaPj
set_option linter.unusedVariables false
set_option linter.unusedSimpArgs false
namespace Go.Proofs.Ytmkbleeideddkaa
open Go.RowKit

set_option maxHeartbeats 4000000 in
set_option maxRecDepth 100000 in
theorem pturns_walk (a0 : Option Addr) (len0 cap0 : Nat) (z0 : List Int) (a1 : Option Addr) (len1 cap1 : Nat) (a2 : Int) (w : World) (w0 : IsRow8 w a0 len0 cap0 z0) (w1 : BoolsIn w a1 len1 cap1) (w2 : (Lit.int .i64 a2).wf = true) :
    Calls Try.prog 4 #[.slice a0 len0 cap0, .slice a1 len1 cap1, .int .i64 a2] w fun e w' => e = .returned (.bool true) ∧ Below w.heap.size w w' := by
  obtain ⟨m, l, hm1, hm2, hm3, hc1, hc2, hl, hl4, hmin, hrd⟩ := addrs_in w0
  obtain ⟨hb1, hb2, f, hbf⟩ := bools_fun w1
  obtain ⟨q, hq, hq2⟩ := and_i64 a2 31 (by omega)
  have hq' : bits BinOp.and IntKind.i64 a2 31 = (q : Int) := hq
  have HQ := Lib.hid hq'
  have HRD := Lib.hid hrd
  have HBF := Lib.hid hbf
  clear w0 w1 w2 hq hq' hrd hbf
  go_enter Try.func4, Try.ntmps4
  go_wp2_with fail
  refine (shown_any _).mono ?_
  rintro e w1 ⟨rfl, hb1⟩
  have HB1 := Lib.hid hb1
  clear hb1
  go_wp2_with fail
  refine (poll_new _ (.slice a0 m cap0) l (HRD.out.below HB1.out) hl4 (cap_lit (by omega))).mono ?_
  rintro e w2 ⟨rfl, hb2, hs2⟩
  obtain ⟨P0, hP0⟩ : ∃ P, P = newF (intsOf l) := ⟨_, rfl⟩
  have hgood : Good P0.row := by rw [hP0]; exact newF_good _
  have hfresh : ∀ p ∈ P0.row, p.dead = false := by rw [hP0]; exact fun p hp => (newF_fresh _ p hp).1
  have ht0 : P0.turn = 0 := by rw [hP0]; rfl
  rw [← hP0] at hs2
  have HB2 := Lib.hid hb2
  have HS2 := Lib.hid hs2
  have HG := Lib.hid hgood
  have HF := Lib.hid hfresh
  have HT0 := Lib.hid ht0
  clear hb2 hs2 hP0 hgood hfresh ht0 hmin
  go_wp2_with fail
  refine (poll_addrs _ w1.heap.size w1.heap.size P0 HS2.out).mono ?_
  rintro e w3 ⟨hb3, va, rfl, ho3⟩
  obtain ⟨A, c, rfl⟩ := own_slice ho3
  have HA3 := Lib.hid (PAll.start HB1.out HB2.out HS2.out hb3 ho3)
  obtain ⟨L, t0⟩ := P0
  have hn40 : L.length ≤ 40 := by obtain ⟨_, _, hin⟩ := HS2.out; exact hin.n40
  simp only [] at HG HF HT0 HA3 ⊢
  obtain rfl : t0 = 0 := HT0.out
  clear hb3 ho3 HB2 HS2 HT0 HB1 HRD
  go_wp2_with fail
  have hg1 : w.heap.size ≤ w1.heap.size := by obtain ⟨_, _, hin⟩ := HA3.out.po; exact hin.ge
  go_loopw [10] (fun i wr => ∃ k : Nat, k ≤ q ∧ i = .int .i64 k ∧ ∃ t, t ≤ L.length ∧ PAll w wr w1.heap.size (.slice A L.length c) L ⟨L, t⟩) (fun i _ => q - (intOf i).toNat)
  case atStart => exact ⟨0, Nat.zero_le _, rfl, 0, Nat.zero_le _, HA3.out⟩
  case round =>
    obtain ⟨k, hk, rfl, t, ht, hpa⟩ := hrel
    have HPA := Lib.hid hpa
    clear hpa
    have hqq := HQ.out
    by_cases hlt : k < q
    · go_upto_region 9 with fail
      clear hqq
      go_wp2_with fail
      rcases next_alive ⟨L, t⟩ 0 (due_fresh HF.out 0) ht with ⟨h1, h2⟩ | ⟨x, t', h1, h2, h3, h4, h5⟩
      · have hL0 : L.length = 0 := by
          have h6 := own_fresh HF.out
          rw [show ownF L = [] from h1] at h6
          have h7 := congrArg List.length h6
          simpa using h7.symm
        have e0 : ¬ 0 < L.length := by omega
        clear hL0
        refine (poll_next _ w.heap.size w1.heap.size ⟨L, t⟩ _ 0 _ _ HPA.out.po ⟨by omega, by omega⟩ h2).mono ?_
        rintro e w4 ⟨rfl, hk4, hp4⟩
        have HN := Lib.hid (HPA.out.kept hk4 hp4)
        clear hk4 hp4 h1 h2
        go_wp2_with fail
        go_roundw
        case rel => exact ⟨k + 1, by omega, by go_num, t, ht, HN.out⟩
        case measure => simp [intOf]; omega
      · have hL0 : 0 < L.length := by
          rcases Nat.eq_zero_or_pos L.length with h0 | h0
          · have : L = [] := List.length_eq_zero_iff.1 h0
            subst this
            exact absurd rfl h1
          · exact h0
        refine (poll_next _ w.heap.size w1.heap.size ⟨L, t⟩ _ 0 _ _ HPA.out.po ⟨by omega, by omega⟩ h3).mono ?_
        rintro e w4 ⟨rfl, hk4, hp4⟩
        have HN := Lib.hid (HPA.out.kept hk4 hp4)
        have ht' : t' ≤ L.length := h4
        clear hk4 hp4 h1 h2 h3 h4 h5
        go_wp2_with fail
        go_roundw
        case rel => exact ⟨k + 1, by omega, by go_num, t', ht', HN.out⟩
        case measure => simp [intOf]; omega
    · obtain ⟨dm, hdm⟩ : ∃ dm : Nat → Bool, dm = fun i => decide (i < len1) && f i := ⟨_, rfl⟩
      have HDM := Lib.hid hdm
      clear hdm
      go_upto_region 12 with fail
      clear hqq
      go_wp2_with fail
      obtain ⟨C, hC⟩ : ∃ C, C = wr.heap.size := ⟨_, rfl⟩
      have HC := Lib.hid hC
      clear hC
      go_loopw [13, 14] (fun o i wr2 => ∃ k : Nat, k ≤ L.length ∧ i = .int .i64 k ∧ TOwn w wr2 w1.heap.size (.slice A L.length c) L ⟨deadRow L dm k, t⟩ C o (ownK L dm k)) (fun _ i _ => L.length - (intOf i).toNat)
      case atStart => exact ⟨0, Nat.zero_le _, rfl, HPA.out, World.ownsRow_nil _ _ _ _, by rw [HC.out]; exact HPA.out.be.size, by rw [HC.out]; exact Nat.le_refl _, fun b hb => by rw [HC.out]; exact (own_lt HPA.out.al b hb).2⟩
      case round =>
        obtain ⟨j, hj, rfl, hto⟩ := hrel
        have HTO := Lib.hid hto
        clear hto
        by_cases hjl : j < L.length
        · obtain ⟨p, hp⟩ : ∃ p, L[j]? = some p := ⟨_, List.getElem?_eq_getElem hjl⟩
          obtain ⟨gr, rfl, -, -, hcell⟩ := own_cell HTO.out.pa.al hjl (addrV_get hp)
          have hown := ownK_succ (dm := dm) HF.out hp
          have HOWN := Lib.hid hown
          have HP := Lib.hid hp
          clear hown hp
          cases hdj : dm j with
          | true =>
            have hj1 : j < len1 ∧ f j = true := by
              rw [HDM.out] at hdj
              simpa using hdj
            obtain ⟨hj1, hfj⟩ := hj1
            obtain ⟨ad, rfl⟩ : ∃ ad, a1 = some ad := by
              cases a1 with
              | none => have := hb2 rfl; omega
              | some ad => exact ⟨ad, rfl⟩
            have hcb := HBF.out _ HTO.out.pa.be ad rfl j hj1
            rw [hfj] at hcb
            have HDJ := Lib.hid hdj
            clear hdj hfj
            go_wp2_with fail
            refine (poll_dead _ w.heap.size w1.heap.size ⟨deadRow L dm j, t⟩ ⟨(deadRow L dm j).modify j (deadP 7), t⟩ p.addr 7 0 HTO.out.pa.po ⟨by omega, by omega⟩ ?hF).mono ?_
            case hF =>
              unfold PS.dead
              rw [find_at (by rw [deadRow_addr]; exact HG.out.2) ((deadRow_get L dm j j (Nat.le_refl _)).trans HP.out)]
              rfl
            rintro e w5 ⟨rfl, hk5, hp5⟩
            have HN := Lib.hid (HTO.out.kept hk5 hp5)
            clear hk5 hp5
            go_wp2_with fail
            go_roundw
            case rel =>
              refine ⟨j + 1, by omega, by go_num, ?_⟩
              rw [HOWN.out, if_pos HDJ.out]
              simp only [deadRow, if_pos HDJ.out]
              exact HN.out
            case measure => simp [intOf]; omega
          | false =>
            have HDJ := Lib.hid hdj
            have hgo : Hid ((j < len1 ∧ f j = false) ∨ len1 ≤ j) := by
              rw [HDM.out] at hdj
              by_cases h : j < len1
              · exact .inl ⟨h, by simpa [h] using hdj⟩
              · exact .inr (by omega)
            clear hdj
            obtain ⟨Ao, co, rfl⟩ := own_slice HTO.out.ow
            obtain ⟨i0, hi, hz0, hz1, hz2⟩ := info_parts Try.info5
            have hwl : C ≤ wr.heap.size := HTO.out.sz
            have hxl : (ownK L dm j).length ≤ 40 := by
              have h1 : (ownK L dm j).length ≤ (deadRow L dm j).length := by
                unfold ownK ownF
                rw [List.length_map]
                exact Nat.le_trans (List.length_filter_le _ _) (by rw [List.length_take]; omega)
              rw [deadRow_len] at h1
              omega
            rcases hgo.out with ⟨hj1, hfj⟩ | hj1
            · obtain ⟨ad, rfl⟩ : ∃ ad, a1 = some ad := by
                cases a1 with
                | none => have := hb2 rfl; omega
                | some ad => exact ⟨ad, rfl⟩
              have hcb := HBF.out _ HTO.out.pa.be ad rfl j hj1
              rw [hfj] at hcb
              clear hfj hgo
              go_wp2_with (at_builtin; go_loud (refine wpList_append_own _ rfl (.tmp 74) (.tmp 79) 22 rfl C 5 i0 (.int .u8 0) 1 1 Try.underlying22 hi hz0 hz1 hz2 rfl (by decide) (.slice Ao (ownK L dm j).length co) (ownK L dm j).length ((ownK L dm j).map (Value.int .u8)) rfl ?_ ⟨wr.heap.size, 0, none⟩ 1 1 [.int .u8 p.addr] rfl rfl ?_ ?_ ?_ ?_ ?_ ?_))
              · exact own_below HTO.out.ow ((Below.refl _ _).alloc (Nat.le_refl _) _)
              · exact news_one (blk_new _ _)
              · simp [Value.oneCell']
              · unfold maxLen; omega
              · omega
              · simp; omega
              intro v3 w5 ho3 hg3 _
              have hn := (HTO.out.below ((Below.refl _ _).alloc (Nat.le_refl _) (.cells #[.int .u8 p.addr] 5))).push hg3 ho3
              have HN := Lib.hid hn
              obtain ⟨A3, c3, rfl⟩ := own_slice ho3
              clear ho3 hg3 hn
              go_wp2_with fail
              go_roundw
              case rel =>
                refine ⟨j + 1, by omega, by go_num, ?_⟩
                rw [HOWN.out, HDJ.out]
                simp only [deadRow, HDJ.out]
                exact HN.out
              case measure => simp [intOf]; omega
            · clear hgo
              go_wp2_with (at_builtin; go_loud (refine wpList_append_own _ rfl (.tmp 74) (.tmp 79) 22 rfl C 5 i0 (.int .u8 0) 1 1 Try.underlying22 hi hz0 hz1 hz2 rfl (by decide) (.slice Ao (ownK L dm j).length co) (ownK L dm j).length ((ownK L dm j).map (Value.int .u8)) rfl ?_ ⟨wr.heap.size, 0, none⟩ 1 1 [.int .u8 p.addr] rfl rfl ?_ ?_ ?_ ?_ ?_ ?_))
              · exact own_below HTO.out.ow ((Below.refl _ _).alloc (Nat.le_refl _) _)
              · exact news_one (blk_new _ _)
              · simp [Value.oneCell']
              · unfold maxLen; omega
              · omega
              · simp; omega
              intro v3 w5 ho3 hg3 _
              have hn := (HTO.out.below ((Below.refl _ _).alloc (Nat.le_refl _) (.cells #[.int .u8 p.addr] 5))).push hg3 ho3
              have HN := Lib.hid hn
              obtain ⟨A3, c3, rfl⟩ := own_slice ho3
              clear ho3 hg3 hn
              go_wp2_with fail
              go_roundw
              case rel =>
                refine ⟨j + 1, by omega, by go_num, ?_⟩
                rw [HOWN.out, HDJ.out]
                simp only [deadRow, HDJ.out]
                exact HN.out
              case measure => simp [intOf]; omega
        · obtain rfl : j = L.length := by omega
          obtain ⟨R, hR⟩ : ∃ R, R = deadRow L dm L.length := ⟨_, rfl⟩
          have hRl : R.length = L.length := by rw [hR]; exact deadRow_len _ _ _
          have hxs : ownK L dm L.length = ownF R := by
            unfold ownK
            rw [← hR, ← hRl, List.take_length]
          have hdue : ∀ p ∈ R, p.dead = true → p.since = 7 := by rw [hR]; exact deadRow_due HF.out dm _
          have hRn : (R.map PP.addr).Nodup := by rw [hR, deadRow_addr]; exact HG.out.2
          obtain ⟨xs, hx⟩ : ∃ xs, xs = ownF R := ⟨_, rfl⟩
          have hxn : xs.Nodup := by rw [hx]; exact own_sub R hRn
          have hxl : xs.length ≤ 40 := by
            rw [hx]
            unfold ownF
            rw [List.length_map]
            exact Nat.le_trans (List.length_filter_le _ _) (by omega)
          rw [← hR, hxs, ← hx] at HTO
          have htR : t ≤ R.length := by omega
          obtain ⟨Ao, co, rfl⟩ := own_slice HTO.out.ow
          have HX := Lib.hid hx
          have HDUE := Lib.hid hdue
          have HXN := Lib.hid hxn
          clear hR hxs hRl hdue hRn hx hxn
          by_cases hz : xs.length = 0
          · have hez : ¬ 0 < xs.length := by omega
            have hnx : PS.next ⟨R, t⟩ 8 = (0, false, ⟨R, t⟩) := by
              rcases next_alive ⟨R, t⟩ 8 (due_no HDUE.out (by omega)) htR with ⟨h1, h2⟩ | ⟨x, t', h1, h2, h3, h4, h5⟩
              · exact h2
              · exfalso
                apply h1
                show ownF R = []
                rw [← HX.out]
                exact List.length_eq_zero_iff.1 hz
            have hzi : decide ((xs.length : Int) = 0) = true := by simpa using hz
            have HNX := Lib.hid hnx
            clear hnx hz
            go_wp2_with fail
            refine (poll_next _ w.heap.size w1.heap.size ⟨R, t⟩ _ 8 _ _ HTO.out.pa.po ⟨by omega, by omega⟩ HNX.out).mono ?_
            rintro e w5 ⟨rfl, hk5, hp5⟩
            have HN := Lib.hid (HTO.out.kept hk5 hp5)
            clear hk5 hp5
            go_wp2_with fail
            go_ret
            exact ⟨rfl, HN.out.pa.be⟩
          · have hxp : 0 < xs.length := by omega
            have hzi : ¬ ((xs.length : Int) = 0) := by omega
            obtain ⟨x, t', j0, hj0, hx0, hnx, ht', hcn⟩ : ∃ (x : Int) (t' j0 : Nat), j0 < xs.length ∧ xs[j0]? = some x ∧ PS.next ⟨R, t⟩ 8 = (x, true, ⟨R, t'⟩) ∧ t' ≤ R.length ∧ cnt R t' = j0 + 1 := by
              rcases next_alive ⟨R, t⟩ 8 (due_no HDUE.out (by omega)) htR with ⟨h1, h2⟩ | ⟨x, t', h1, h2, h3, h4, h5⟩
              · exfalso
                rw [HX.out, show ownF R = [] from h1] at hxp
                simp at hxp
              · have h2' : (ownF R)[cnt R t % (ownF R).length]? = some x := h2
                have h5' : cnt R t' = cnt R t % (ownF R).length + 1 := h5
                rw [← HX.out] at h2' h5'
                exact ⟨x, t', cnt R t % xs.length, Nat.mod_lt _ hxp, h2', h3, h4, h5'⟩
            have HX0 := Lib.hid hx0
            have HNX := Lib.hid hnx
            have HCN := Lib.hid hcn
            clear hx0 hnx hcn hz
            go_wp2_with fail
            refine (poll_next _ w.heap.size w1.heap.size ⟨R, t⟩ _ 8 _ _ HTO.out.pa.po ⟨by omega, by omega⟩ HNX.out).mono ?_
            rintro e w5 ⟨rfl, hk5, hp5⟩
            have HN := Lib.hid (HTO.out.kept hk5 hp5)
            clear hk5 hp5
            go_wp2_with fail
            go_loopw [19, 20] (fun u i wr2 => ∃ (k : Nat) (uu : Int), k ≤ xs.length ∧ i = .int .i64 k ∧ u = .int .i64 uu ∧ (uu = if j0 < k then (j0 : Int) else -1) ∧ TOwn w wr2 w1.heap.size (.slice A L.length c) L ⟨R, t'⟩ C (.slice Ao xs.length co) xs) (fun _ i _ => xs.length - (intOf i).toNat)
            case atStart => exact ⟨0, -1, Nat.zero_le _, rfl, rfl, by simp, HN.out⟩
            case round =>
              obtain ⟨k, uu, hk, rfl, rfl, huu, hto⟩ := hrel
              have HTO3 := Lib.hid hto
              have HUU := Lib.hid huu
              clear hto huu
              by_cases hlt : k < xs.length
              · obtain ⟨y, hy⟩ : ∃ y, xs[k]? = some y := ⟨_, List.getElem?_eq_getElem hlt⟩
                obtain ⟨gr, rfl, -, -, hcell⟩ := own_cell HTO3.out.ow hlt (xs_get hy)
                by_cases hkj : k = j0
                · have hyx : y = x := by
                    have := HX0.out
                    rw [← hkj, hy] at this
                    injection this
                  subst hyx
                  have HKJ := Lib.hid hkj
                  clear hkj hy
                  go_wp2_with fail
                  go_roundw
                  case rel => exact ⟨k + 1, (k : Int), by omega, by go_num, rfl, by rw [if_pos (by have := HKJ.out; omega), HKJ.out], HTO3.out⟩
                  case measure => simp [intOf]; omega
                · have hyx : ¬ y = x := by
                    rintro rfl
                    exact hkj (nodup_inj' HXN.out hy HX0.out)
                  clear hy
                  go_wp2_with fail
                  go_roundw
                  case rel =>
                    refine ⟨k + 1, uu, by omega, by go_num, rfl, ?_, HTO3.out⟩
                    rw [HUU.out]
                    by_cases h : j0 < k
                    · rw [if_pos h, if_pos (by omega)]
                    · rw [if_neg h, if_neg (by omega)]
                  case measure => simp [intOf]; omega
              · obtain rfl : k = xs.length := by omega
                obtain rfl : uu = (j0 : Int) := by rw [HUU.out, if_pos hj0]
                clear HUU
                go_wp2_with fail
                go_loopw [21] (fun i wr2 => ∃ k : Nat, 1 ≤ k ∧ k ≤ 3 * xs.length + 1 ∧ i = .int .i64 k ∧ ∃ t2, t2 ≤ R.length ∧ cnt R t2 = (j0 + (k - 1)) % xs.length + 1 ∧ TOwn w wr2 w1.heap.size (.slice A L.length c) L ⟨R, t2⟩ C (.slice Ao xs.length co) xs) (fun i _ => 3 * xs.length + 1 - (intOf i).toNat)
                case atStart => exact ⟨1, Nat.le_refl _, by omega, rfl, t', ht', by rw [HCN.out]; simp [Nat.mod_eq_of_lt hj0], HTO3.out⟩
                case round =>
                  obtain ⟨k, hk1, hk2, rfl, t2, ht2, hct2, hto⟩ := hrel
                  have HTO4 := Lib.hid hto
                  have HCT := Lib.hid hct2
                  clear hto hct2
                  by_cases hlt : k ≤ 3 * xs.length
                  · obtain ⟨r, hr1, hr2, hr3⟩ : ∃ r : Nat, (k : Int).tmod 19 = (r : Int) ∧ (k : Int) % 19 = (r : Int) ∧ r ≤ 18 := ⟨k % 19, (Int.ofNat_tmod k 19).symm, by omega, by omega⟩
                    obtain ⟨s, hs1, hs2, hs3, hs4⟩ : ∃ s : Nat, ((j0 : Int) + (k : Int)).tmod (xs.length : Int) = (s : Int) ∧ ((j0 : Int) + (k : Int)) % (xs.length : Int) = (s : Int) ∧ s < xs.length ∧ s = (j0 + k) % xs.length := by
                      refine ⟨(j0 + k) % xs.length, ?_, ?_, Nat.mod_lt _ hxp, rfl⟩
                      · rw [show ((j0 : Int) + (k : Int)) = ((j0 + k : Nat) : Int) by omega]
                        exact (Int.ofNat_tmod _ _).symm
                      · rw [show ((j0 : Int) + (k : Int)) = ((j0 + k : Nat) : Int) by omega]
                        exact (Int.natCast_emod _ _).symm
                    obtain ⟨y, t3, hy, hny, ht3, hc3⟩ : ∃ (y : Int) (t3 : Nat), xs[s]? = some y ∧ PS.next ⟨R, t2⟩ (8 + (r : Int)) = (y, true, ⟨R, t3⟩) ∧ t3 ≤ R.length ∧ cnt R t3 = s + 1 := by
                      rcases next_alive ⟨R, t2⟩ (8 + (r : Int)) (due_no HDUE.out (by omega)) ht2 with ⟨h1, h2⟩ | ⟨x, t', h1, h2, h3, h4, h5⟩
                      · exfalso
                        rw [HX.out, show ownF R = [] from h1] at hxp
                        simp at hxp
                      · have h2' : (ownF R)[cnt R t2 % (ownF R).length]? = some x := h2
                        have h5' : cnt R t' = cnt R t2 % (ownF R).length + 1 := h5
                        have hsm : cnt R t2 % xs.length = s := by
                          rw [HCT.out, Nat.mod_add_mod, hs4]
                          congr 1
                          omega
                        rw [← HX.out, hsm] at h2' h5'
                        exact ⟨x, t', h2', h3, h4, h5'⟩
                    obtain ⟨gr, rfl, -, -, hcell⟩ := own_cell HTO4.out.ow hs3 (xs_get hy)
                    have HY := Lib.hid hy
                    have HNY := Lib.hid hny
                    have HC3 := Lib.hid hc3
                    have HS4 := Lib.hid hs4
                    clear hny hc3 hs4 hy hcell
                    go_wp2_with fail
                    refine (poll_next _ w.heap.size w1.heap.size ⟨R, t2⟩ _ (8 + (r : Int)) _ _ HTO4.out.pa.po ⟨by omega, by omega⟩ HNY.out).mono ?_
                    rintro e w6 ⟨rfl, hk6, hp6⟩
                    have hcell6 : w6.cell? ⟨gr, s, none⟩ = some (.int .u8 y) := by
                      obtain ⟨gr', e, -, -, h⟩ := own_cell (own_kept HTO4.out.ow hk6 (by decide)) hs3 (xs_get HY.out)
                      cases e
                      exact h
                    have HN6 := Lib.hid (HTO4.out.kept hk6 hp6)
                    clear hk6 hp6
                    go_wp2_with fail
                    go_roundw
                    case rel =>
                      refine ⟨k + 1, by omega, by omega, by go_num, t3, ht3, ?_, HN6.out⟩
                      rw [HC3.out, HS4.out]
                      rfl
                    case measure => simp [intOf]; omega
                  · go_wp2_with fail
                    go_ret
                    exact ⟨rfl, HTO4.out.pa.be⟩
end Go.Proofs.Ytmkbleeideddkaa
