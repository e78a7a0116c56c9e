/- The walk of lamplightlaw09.PollNobody. -/
import Derived.Test.YtmkbleeideddkaaPl
import Derived.Deep.CutBlock
set_option linter.unusedVariables false
set_option linter.unusedSimpArgs false
namespace Go.Proofs.Ytmkbleeideddkaa
open Go.RowKit

theorem best_in {l : List PP} {now : Int} {k b : Nat} (h : bestF l now k = some b) : b < l.length := (best_lt l now k b h).2
theorem addrAt_mem {l : List PP} {i : Nat} (h : i < l.length) : addrAt l i ∈ l.map PP.addr := by
  rw [addrAt_of (List.getElem?_eq_getElem h)]
  exact List.mem_map.2 ⟨_, List.getElem_mem h, rfl⟩
/-- Whoever is told is of the row; the row's addresses stay. -/
theorem next_law (P : PS) (now : Int) : ∃ (a : Int) (ok : Bool) (P' : PS), P.next now = (a, ok, P') ∧ P'.row.map PP.addr = P.row.map PP.addr ∧ (ok = true → a ∈ P.row.map PP.addr) ∧ (ok = false → a = 0) := by
  unfold PS.next
  cases hb : bestF P.row now P.row.length with
  | some i => exact ⟨_, _, _, rfl, modify_addr _ _ _ fun p => rfl, fun _ => addrAt_mem (best_in hb), fun h => (by cases h)⟩
  | none =>
    cases ha : aliveF P.row P.turn P.row.length 0 with
    | none => exact ⟨_, _, _, rfl, rfl, fun h => (by cases h), fun _ => rfl⟩
    | some j =>
      obtain ⟨-, h2, -, -⟩ := aliveF_some _ _ _ ha
      exact ⟨_, _, _, rfl, rfl, fun _ => addrAt_mem (Nat.mod_lt _ (by omega)), fun h => (by cases h)⟩
theorem dead_law (P : PS) (a now : Int) : ∃ (n : Int) (P' : PS), P.dead a now = (n, P') ∧ P'.row.map PP.addr = P.row.map PP.addr ∧ P'.turn = P.turn := by
  unfold PS.dead
  cases hf : findF P.row a with
  | none => exact ⟨_, _, rfl, rfl, rfl⟩
  | some i => exact ⟨_, _, rfl, modify_addr _ _ _ fun p => rfl, rfl⟩
theorem alive_law (P : PS) (a : Int) : ∃ (n : Int) (P' : PS), P.alive a = (n, P') ∧ P'.row.map PP.addr = P.row.map PP.addr ∧ P'.turn = P.turn := by
  unfold PS.alive
  cases hf : findF P.row a with
  | none => exact ⟨_, _, rfl, rfl, rfl⟩
  | some i => exact ⟨_, _, rfl, modify_addr _ _ _ fun p => rfl, rfl⟩
def inF (xs : List Int) (y : Int) (k : Nat) : Bool := decide (y ∈ xs.take k)
theorem inF_succ {xs : List Int} {k : Nat} {x y : Int} (h : xs[k]? = some x) : inF xs y (k + 1) = (inF xs y k || decide (x = y)) := by
  obtain ⟨h1, h2⟩ := List.getElem?_eq_some_iff.1 h
  unfold inF
  rw [List.take_succ_eq_append_getElem h1, h2]
  by_cases hx : x = y
  · subst hx
    simp
  · have hx2 : y ≠ x := fun e => hx e.symm
    simp [hx, hx2]
theorem inF_all (xs : List Int) (y : Int) : inF xs y xs.length = decide (y ∈ xs) := by unfold inF; rw [List.take_length]
/-- A poll, its addresses, and a step that was copied. -/
structure TSt (w wr : World) (g : Nat) (va : Value) (L : List PP) (P : PS) (bx : Nat) (kd y now : Int) : Prop where
  pa : PAll w wr g va L P
  ad : P.row.map PP.addr = L.map PP.addr
  bo : wr.heap[bx]? = some (.cells #[.int .i64 kd, .int .u8 y, .int .i64 now] 30 (0, 0))
theorem TSt.kept {w wr w2 : World} {g bx : Nat} {va : Value} {L : List PP} {P P' : PS} {kd y now : Int} (h : TSt w wr g va L P bx kd y now) (k : Kept w.heap.size [54, 58] wr w2) (hp : PollAt w2 w.heap.size g P') (ha : P'.row.map PP.addr = P.row.map PP.addr) : TSt w w2 g va L P' bx kd y now :=
  ⟨h.pa.kept k hp, ha.trans h.ad, k.blk h.bo (by decide)⟩
theorem TSt.below {w wr w2 : World} {g bx : Nat} {va : Value} {L : List PP} {P : PS} {kd y now : Int} (h : TSt w wr g va L P bx kd y now) (hb : Below wr.heap.size wr w2) : TSt w w2 g va L P bx kd y now :=
  ⟨h.pa.below hb, h.ad, blk_below' h.bo hb⟩
theorem addrs_get {L : List PP} {k : Nat} {p : PP} (h : L[k]? = some p) : (L.map PP.addr)[k]? = some p.addr := by simp [h]

set_option maxHeartbeats 4000000 in
set_option maxRecDepth 100000 in
theorem pnobody_walk (a0 : Option Addr) (len0 cap0 : Nat) (z0 : List Int) (a1 : Int) (a2 : Option Addr) (len2 cap2 : Nat) (w : World) (w0 : IsRow8 w a0 len0 cap0 z0) (w1 : (Lit.int .u8 a1).wf = true) (w2 : StepsIn w a2 len2 cap2) :
    Calls Try.prog 6 #[.slice a0 len0 cap0, .int .u8 a1, .slice a2 len2 cap2] w fun e w' => e = .returned (.bool true) ∧ Below w.heap.size w w' := by
  obtain ⟨m, l, hm1, hm2, hm3, hc1, hc2, hl, hl4, hmin, hrd⟩ := addrs_in w0
  have r2 := w2
  have hmax : len2 ≤ 9223372036854775807 := by
    rcases r2 with ⟨_, h1, _⟩ | ⟨_, _, h1, h2, _⟩
    · omega
    · unfold maxLen at h2; omega
  have HRD := Lib.hid hrd
  clear w0 w1 w2 hrd
  go_enter Try.func6, Try.ntmps6
  go_wp2_with fail
  refine (shown_any _).mono ?_
  rintro e w1 ⟨rfl, hb1⟩
  have HB1 := Lib.hid hb1
  clear hb1
  go_wp2_with fail
  refine (poll_new _ (.slice a0 m cap0) l (HRD.out.below HB1.out) hl4 (cap_lit (by omega))).mono ?_
  rintro e w2 ⟨rfl, hb2, hs2⟩
  obtain ⟨P0, hP0⟩ : ∃ P, P = newF (intsOf l) := ⟨_, rfl⟩
  have hgood : Good P0.row := by rw [hP0]; exact newF_good _
  have hfresh : ∀ p ∈ P0.row, p.dead = false := by rw [hP0]; exact fun p hp => (newF_fresh _ p hp).1
  have ht0 : P0.turn = 0 := by rw [hP0]; rfl
  rw [← hP0] at hs2
  have HB2 := Lib.hid hb2
  have HS2 := Lib.hid hs2
  have HG := Lib.hid hgood
  have HF := Lib.hid hfresh
  have HT0 := Lib.hid ht0
  clear hb2 hs2 hP0 hgood hfresh ht0 hmin
  go_wp2_with fail
  refine (poll_addrs _ w1.heap.size w1.heap.size P0 HS2.out).mono ?_
  rintro e w3 ⟨hb3, va, rfl, ho3⟩
  obtain ⟨A, c, rfl⟩ := own_slice ho3
  have HA3 := Lib.hid (PAll.start HB1.out HB2.out HS2.out hb3 ho3)
  obtain ⟨L, t0⟩ := P0
  have hn40 : L.length ≤ 40 := by obtain ⟨_, _, hin⟩ := HS2.out; exact hin.n40
  simp only [] at HG HF HT0 HA3 ⊢
  obtain rfl : t0 = 0 := HT0.out
  clear hb3 ho3 HB2 HS2 HT0 HB1 HRD
  have hg1 : w.heap.size ≤ w1.heap.size := by obtain ⟨_, _, hin⟩ := HA3.out.po; exact hin.ge
  go_wp2_with fail
  go_loopw [10, 11] (fun u i wr => ∃ k : Nat, k ≤ L.length ∧ i = .int .i64 k ∧ u = .bool (inF (L.map PP.addr) a1 k) ∧ PAll w wr w1.heap.size (.slice A L.length c) L ⟨L, 0⟩) (fun _ i _ => L.length - (intOf i).toNat)
  case atStart => exact ⟨0, Nat.zero_le _, rfl, rfl, HA3.out⟩
  case round =>
    obtain ⟨k, hk, rfl, rfl, hpa⟩ := hrel
    have HPA := Lib.hid hpa
    clear hpa
    by_cases hlt : k < L.length
    · obtain ⟨p, hp⟩ : ∃ p, L[k]? = some p := ⟨_, List.getElem?_eq_getElem hlt⟩
      obtain ⟨gr, rfl, -, -, hcell⟩ := own_cell HPA.out.al hlt (addrV_get hp)
      have hlo := (HG.out.1 p (List.mem_of_getElem? hp)).1
      have hhi := (HG.out.1 p (List.mem_of_getElem? hp)).2
      have HS := Lib.hid (inF_succ (y := a1) (addrs_get hp))
      obtain ⟨sb, hsb⟩ : ∃ sb, sb = inF (L.map PP.addr) a1 k := ⟨_, rfl⟩
      rw [← hsb] at HS ⊢
      clear hsb hp
      cases sb with
      | true =>
        go_wp2_with fail
        go_roundw
        case rel => exact ⟨k + 1, by omega, by go_num, by rw [HS.out]; simp, HPA.out⟩
        case measure => simp [intOf]; omega
      | false =>
        by_cases hyp : p.addr = a1
        · have hyb : (p.addr == a1) = true := by simpa using hyp
          have HY := Lib.hid hyp
          clear hyp
          go_wp2_with fail
          go_roundw
          case rel => exact ⟨k + 1, by omega, by go_num, by rw [HS.out]; simp [HY.out], HPA.out⟩
          case measure => simp [intOf]; omega
        · have hyb : (p.addr == a1) = false := by simpa using hyp
          have HY := Lib.hid hyp
          clear hyp
          go_wp2_with fail
          go_roundw
          case rel => exact ⟨k + 1, by omega, by go_num, by rw [HS.out]; simp [HY.out], HPA.out⟩
          case measure => simp [intOf]; omega
    · obtain rfl : k = L.length := by omega
      have hia : inF (L.map PP.addr) a1 L.length = decide (a1 ∈ L.map PP.addr) := by
        have := inF_all (L.map PP.addr) a1
        rwa [List.length_map] at this
      rw [hia]
      obtain ⟨inn, hinn⟩ : ∃ b, b = decide (a1 ∈ L.map PP.addr) := ⟨_, rfl⟩
      rw [← hinn]
      have HIN := Lib.hid hinn
      clear hia hinn HA3
      go_wp2_with fail
      go_loopw [12] (fun i wr => ∃ k : Nat, k ≤ len2 ∧ k ≤ 100 ∧ i = .int .i64 k ∧ ∃ P, PAll w wr w1.heap.size (.slice A L.length c) L P ∧ P.row.map PP.addr = L.map PP.addr) (fun i _ => len2 - (intOf i).toNat)
      case atStart => exact ⟨0, Nat.zero_le _, by omega, rfl, _, HPA.out, rfl⟩
      case round =>
        obtain ⟨k, hk, hk100, rfl, P, hpa, had⟩ := hrel
        have HPA2 := Lib.hid hpa
        have HAD := Lib.hid had
        clear hpa had HPA
        by_cases hlt2 : k < len2
        · by_cases h100 : k < 100
          · have hd : (decide ((k : Int) < 100)) = true := by simp; omega
            obtain ⟨x1, rfl, hlc1, _, hst⟩ := r2.resolve_left (by rintro ⟨_, h, _⟩; omega)
            obtain ⟨kd, y, now, c0, c1, c2, hy, hnow⟩ := hst k hlt2
            have gb : ∀ {q : Addr} {v : Value}, w.cell? q = some v → wr.cell? q = some v := fun hc => (HPA2.out.be.cell (World.block_lt_of_cell? w _ hc)).trans hc
            have d0 := gb c0
            have d1 : wr.cell? ⟨(x1.add (k * 3)).block, (x1.add (k * 3)).off + 1, none⟩ = some (.int .u8 y) := by simpa [Addr.add] using gb c1
            have d2 : wr.cell? ⟨(x1.add (k * 3)).block, (x1.add (k * 3)).off + 2, none⟩ = some (.int .i64 now) := by simpa [Addr.add] using gb c2
            clear gb c0 c1 c2 hst hlt
            have hal : Below wr.heap.size wr (wr.alloc (.cells #[.int .i64 kd, .int .u8 y, .int .i64 now] 30)) := (Below.refl _ _).alloc (Nat.le_refl _) _
            have HT : Hid (TSt w _ w1.heap.size (.slice A L.length c) L P wr.heap.size kd y now) := ⟨HPA2.out.below hal, HAD.out, blk_new _ _⟩
            clear hal
            go_upto_block 4 with fail
            go_cut [] (fun w' => ∃ P', TSt w w' w1.heap.size (.slice A L.length c) L P' wr.heap.size kd y now)
            case first =>
              have e0 := blk_cell HT.out.bo 0
              have e1 := blk_cell HT.out.bo 1
              have e2 := blk_cell HT.out.bo 2
              clear d0 d1 d2
              go_upto_if 73 with fail
              go_cut [73] (fun v w' => v = .bool (decide (kd = 1 ∨ kd = 2 ∨ kd = 3)) ∧ w' = wr.alloc (.cells #[.int .i64 kd, .int .u8 y, .int .i64 now] 30))
              case first =>
                by_cases h1 : kd = 1
                · have hb1 : (kd == 1) = true := by simpa using h1
                  have H1 := Lib.hid h1
                  clear h1
                  go_wp2_with fail
                  go_meet
                  case rel => exact ⟨by simp [H1.out], rfl⟩
                · have hb1 : (kd == 1) = false := by simpa using h1
                  have H1 := Lib.hid h1
                  clear h1
                  by_cases h2 : kd = 2
                  · have hb2 : (kd == 2) = true := by simpa using h2
                    have H2 := Lib.hid h2
                    clear h2
                    go_wp2_with fail
                    go_meet
                    case rel => exact ⟨by simp [H2.out], rfl⟩
                  · have hb2 : (kd == 2) = false := by simpa using h2
                    have H2 := Lib.hid h2
                    clear h2
                    go_wp2_with fail
                    go_meet
                    case rel => exact ⟨by simp [H1.out, H2.out]; rfl, rfl⟩
              case rest =>
              obtain ⟨rfl, rfl⟩ := hcut
              by_cases hnx : kd = 1 ∨ kd = 2 ∨ kd = 3
              · obtain ⟨x, ok, P', hF, had', hok, hno⟩ := next_law P now
                rw [HAD.out] at had' hok
                have hfo : decide (x ∈ L.map PP.addr) = ok := by
                  cases ok with
                  | true => simpa using hok rfl
                  | false =>
                    have h0 := hno rfl
                    subst h0
                    simp only [decide_eq_false_iff_not]
                    intro hm
                    obtain ⟨p, hp, he⟩ := List.mem_map.1 hm
                    have := (HG.out.1 p hp).1
                    omega
                have hbad : ok = true → x = a1 → inn = true := by
                  intro h1 h2
                  rw [HIN.out, ← h2]
                  simpa using hok h1
                have HFX := Lib.hid hF
                have HFO := Lib.hid hfo
                have HAD' := Lib.hid had'
                clear hF had' hok hfo
                go_wp2_with fail
                refine (poll_next _ w.heap.size w1.heap.size P P' now x ok HT.out.pa.po hnow HFX.out).mono ?_
                rintro e w6 ⟨rfl, hk6, hp6⟩
                have HT6 := Lib.hid (HT.out.kept hk6 hp6 (HAD'.out.trans HAD.out.symm))
                clear hk6 hp6 e0 e1 e2
                obtain ⟨bx, hbx⟩ : ∃ bx, bx = wr.heap.size := ⟨_, rfl⟩
                rw [← hbx] at HT HT6
                simp only [← hbx]
                have HBX := Lib.hid hbx
                clear hbx HT
                go_wp2_with fail
                go_loopw [16, 17] (fun u i wr => ∃ k : Nat, k ≤ L.length ∧ i = .int .i64 k ∧ u = .bool (inF (L.map PP.addr) x k) ∧ TSt w wr w1.heap.size (.slice A L.length c) L P' bx kd y now) (fun _ i _ => L.length - (intOf i).toNat)
                case atStart => exact ⟨0, Nat.zero_le _, rfl, rfl, HT6.out⟩
                case round =>
                  obtain ⟨j, hj, rfl, rfl, hts⟩ := hrel
                  have HTS := Lib.hid hts
                  clear hts
                  by_cases hlt : j < L.length
                  · obtain ⟨p, hp⟩ : ∃ p, L[j]? = some p := ⟨_, List.getElem?_eq_getElem hlt⟩
                    obtain ⟨gr, rfl, -, -, hcell⟩ := own_cell HTS.out.pa.al hlt (addrV_get hp)
                    have HS := Lib.hid (inF_succ (y := x) (addrs_get hp))
                    obtain ⟨sb, hsb⟩ : ∃ sb, sb = inF (L.map PP.addr) x j := ⟨_, rfl⟩
                    rw [← hsb] at HS ⊢
                    clear hsb hp
                    cases sb with
                    | true =>
                      go_wp2_with fail
                      go_roundw
                      case rel => exact ⟨j + 1, by omega, by go_num, by rw [HS.out]; simp, HTS.out⟩
                      case measure => simp [intOf]; omega
                    | false =>
                      by_cases hyp : p.addr = x
                      · have hyb : (p.addr == x) = true := by simpa using hyp
                        have HY := Lib.hid hyp
                        clear hyp
                        go_wp2_with fail
                        go_roundw
                        case rel => exact ⟨j + 1, by omega, by go_num, by rw [HS.out]; simp [HY.out], HTS.out⟩
                        case measure => simp [intOf]; omega
                      · have hyb : (p.addr == x) = false := by simpa using hyp
                        have HY := Lib.hid hyp
                        clear hyp
                        go_wp2_with fail
                        go_roundw
                        case rel => exact ⟨j + 1, by omega, by go_num, by rw [HS.out]; simp [HY.out], HTS.out⟩
                        case measure => simp [intOf]; omega
                  · obtain rfl : j = L.length := by omega
                    have hia : inF (L.map PP.addr) x L.length = ok := by
                      have := inF_all (L.map PP.addr) x
                      rw [List.length_map] at this
                      rw [this, HFO.out]
                    rw [hia]
                    clear hia
                    cases ok with
                    | false =>
                      obtain rfl : x = 0 := hno rfl
                      clear hno hbad
                      go_wp2_with fail
                      have e := HBX.out
                      subst e
                      go_meet
                      case rel => exact ⟨P', HTS.out⟩
                    | true =>
                      clear hno
                      by_cases hxa : x = a1
                      · obtain rfl : inn = true := hbad rfl hxa
                        have hxb : (x == a1) = true := by simpa using hxa
                        clear hxa hbad
                        go_wp2_with fail
                        have e := HBX.out
                        subst e
                        go_meet
                        case rel => exact ⟨P', HTS.out⟩
                      · have hxb : (x == a1) = false := by simpa using hxa
                        clear hxa hbad
                        go_wp2_with fail
                        have e := HBX.out
                        subst e
                        go_meet
                        case rel => exact ⟨P', HTS.out⟩
              · have hnd : decide (kd = 1 ∨ kd = 2 ∨ kd = 3) = false := by simpa using hnx
                rw [hnd]
                clear hnd hnx
                by_cases h4 : kd = 4
                · obtain ⟨nn, P', hF, had', -⟩ := dead_law P y now
                  have HFX := Lib.hid hF
                  have HAD' := Lib.hid had'
                  have hb4 : (kd == 4) = true := by simpa using h4
                  clear hF had' h4
                  go_wp2_with fail
                  refine (poll_dead _ w.heap.size w1.heap.size P P' y now nn HT.out.pa.po hnow HFX.out).mono ?_
                  rintro e w6 ⟨rfl, hk6, hp6⟩
                  have HT6 := Lib.hid (HT.out.kept hk6 hp6 HAD'.out)
                  clear hk6 hp6 e0 e1 e2
                  go_wp2_with fail
                  go_meet
                  case rel => exact ⟨P', HT6.out⟩
                · have hb4 : (kd == 4) = false := by simpa using h4
                  clear h4
                  by_cases h5 : kd = 5
                  · obtain ⟨nn, P', hF, had', -⟩ := alive_law P y
                    have HFX := Lib.hid hF
                    have HAD' := Lib.hid had'
                    have hb5 : (kd == 5) = true := by simpa using h5
                    clear hF had' h5
                    go_wp2_with fail
                    refine (poll_alive _ w.heap.size w1.heap.size P P' y nn HT.out.pa.po HFX.out).mono ?_
                    rintro e w6 ⟨rfl, hk6, hp6⟩
                    have HT6 := Lib.hid (HT.out.kept hk6 hp6 HAD'.out)
                    clear hk6 hp6 e0 e1 e2
                    go_wp2_with fail
                    go_meet
                    case rel => exact ⟨P', HT6.out⟩
                  · have hb5 : (kd == 5) = false := by simpa using h5
                    clear h5
                    go_wp2_with fail
                    go_meet
                    case rel => exact ⟨P, HT.out⟩
            case rest =>
            obtain ⟨w7, rfl⟩ : ∃ w7, w7 = wc := ⟨wc, rfl⟩
            obtain ⟨P', ht7⟩ := hcut
            have HT7 := Lib.hid ht7
            have e2 := blk_cell ht7.bo 2
            clear ht7 HT d0 d1 d2
            cases inn with
            | true =>
              go_wp2_with fail
              go_roundw
              case rel => exact ⟨k + 1, by omega, by omega, by go_num, P', HT7.out.pa, HT7.out.ad⟩
              case measure => simp [intOf]; omega
            | false =>
              have hfn : findF P'.row a1 = none := by
                have h1 := HIN.out
                have h2 : a1 ∉ L.map PP.addr := by simpa using h1.symm
                rw [findF_none_iff, HT7.out.ad]
                exact h2
              have his : P'.is a1 = false := by unfold PS.is; rw [hfn]
              have hal : P'.alive a1 = (6, P') := by unfold PS.alive; rw [hfn]
              have hde : P'.dead a1 now = (6, P') := by unfold PS.dead; rw [hfn]
              have HIS := Lib.hid his
              have HAL := Lib.hid hal
              have HDE := Lib.hid hde
              clear hfn his hal hde
              go_wp2_with fail
              refine (poll_is _ w.heap.size w1.heap.size P' a1 HT7.out.pa.po).mono ?_
              rw [HIS.out]
              rintro e w8 ⟨rfl, hb8⟩
              have HT8 := Lib.hid (HT7.out.below hb8)
              clear hb8
              go_wp2_with fail
              refine (poll_alive _ w.heap.size w1.heap.size P' P' a1 6 HT8.out.pa.po HAL.out).mono ?_
              rintro e w9 ⟨rfl, hk9, hp9⟩
              have HT9 := Lib.hid (HT8.out.kept hk9 hp9 rfl)
              have f2 := blk_cell HT9.out.bo 2
              clear hk9 hp9
              go_wp2_with fail
              refine (poll_dead _ w.heap.size w1.heap.size P' P' a1 now 6 HT9.out.pa.po hnow HDE.out).mono ?_
              rintro e w10 ⟨rfl, hk10, hp10⟩
              have HT10 := Lib.hid (HT9.out.kept hk10 hp10 rfl)
              clear hk10 hp10
              go_wp2_with fail
              go_roundw
              case rel => exact ⟨k + 1, by omega, by omega, by go_num, P', HT10.out.pa, HT10.out.ad⟩
              case measure => simp [intOf]; omega
          · have hd : (decide ((k : Int) < 100)) = false := by simp; omega
            go_wp2_with fail
            refine (poll_addrs _ w.heap.size w1.heap.size P HPA2.out.po).mono ?_
            rintro e w8 ⟨hb8, va, rfl, ho8⟩
            obtain ⟨A8, c8, rfl⟩ := own_slice ho8
            have hlen : P.row.length = L.length := by simpa using congrArg List.length HAD.out
            have HB8 := Lib.hid hb8
            clear hb8 ho8
            go_wp2_with fail
            go_ret
            exact ⟨rfl, HPA2.out.be.trans (HB8.out.mono HPA2.out.be.size)⟩
        · go_wp2_with fail
          refine (poll_addrs _ w.heap.size w1.heap.size P HPA2.out.po).mono ?_
          rintro e w8 ⟨hb8, va, rfl, ho8⟩
          obtain ⟨A8, c8, rfl⟩ := own_slice ho8
          have hlen : P.row.length = L.length := by simpa using congrArg List.length HAD.out
          have HB8 := Lib.hid hb8
          clear hb8 ho8
          go_wp2_with fail
          go_ret
          exact ⟨rfl, HPA2.out.be.trans (HB8.out.mono HPA2.out.be.size)⟩
end Go.Proofs.Ytmkbleeideddkaa
