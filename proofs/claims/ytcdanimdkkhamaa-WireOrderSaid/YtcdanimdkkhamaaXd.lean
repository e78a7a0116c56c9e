/- The walk of lamplightlaw06.WireOrder. Written by gen_order6.py. -/
import Derived.Test.YtcdanimdkkhamaaXc
set_option linter.unusedVariables false
set_option linter.unusedSimpArgs false
namespace Go.Proofs.Ytcdanimdkkhamaa
open Go.RowKit

/-- Behind k steps. -/
def OrdI (w : World) (g room k : Nat) (vw vo : Value) (wr : World) : Prop :=
  ∃ l want out, OrdW w g room l want out vw vo wr ∧ want = out ++ l.map Prod.fst ∧ want.length ≤ 2 * k ∧ l.length ≤ room
/-- Behind i of the last Takes. -/
def OrdJ (w : World) (g room i : Nat) (W : List (List UInt8)) (vw vo : Value) (wr : World) : Prop :=
  ∃ l out, OrdW w g room l W out vw vo wr ∧ W = out ++ l.map Prod.fst ∧ l.length ≤ room ∧ due l ≤ 17 * room - i
/-- While texts come out, one behind the other. -/
def OrdO (w : World) (g room : Nat) (L : List (List UInt8 × Nat)) (W O0 ls : List (List UInt8)) (vw va v : Value) (j : Nat) (wr : World) : Prop := OrdW w g room L W (O0 ++ ls.take j) vw v wr ∧ RowsAt wr 0 va ls
def OrdP (w : World) (g room : Nat) (L : List (List UInt8 × Nat)) (W0 O ls : List (List UInt8)) (vo va v : Value) (j : Nat) (wr : World) : Prop := OrdW w g room L (W0 ++ ls.take j) O v vo wr ∧ RowsAt wr 0 va ls
theorem ord_len {want out : List (List UInt8)} {l : List (List UInt8 × Nat)} (h : want = out ++ l.map Prod.fst) : out.length + l.length = want.length := by
  rw [h]; simp
theorem rows_small {w : World} {B : Nat} {A : Option Addr} {c : Nat} {x : List UInt8} (h : w.ownsRow B 5 1 (.slice A x.length c) x.length (bytesV x)) (hx : x.length ≤ 200) : (convert 28 9 (.slice A x.length c)).run Try.prog w = .ok (.string ⟨x.toArray⟩) w :=
  conv_bytes _ _ _ (own_reads h (by omega))

set_option maxHeartbeats 16000000 in
set_option maxRecDepth 100000 in
theorem worder_walk (a0 : Int) (a1 : Option Addr) (len1 cap1 : Nat) (w : World) (w0 : (Lit.int .i64 a0).wf = true) (r1 : StepsIn w a1 len1 cap1) :
    Calls Try.prog 4 #[.int .i64 a0, .slice a1 len1 cap1] w fun e w' => e = .returned (.bool true) ∧ Below w.heap.size w w' := by
  obtain ⟨i0, hi, hz0, hz1, hz2⟩ := info_parts Try.info9
  obtain ⟨q, hq, hq2⟩ := and_i64 a0 65535 (by omega)
  obtain ⟨room, hroom, hr1, hr2⟩ : ∃ room : Nat, 1 + (q : Int) % 64 = (room : Int) ∧ 1 ≤ room ∧ room ≤ 64 := ⟨1 + q % 64, by omega, by omega, by omega⟩
  have hnew : (if (room : Int) < 1 then 1 else (room : Int)) = (room : Int) := by rw [if_neg (by omega)]
  have HNEW := Lib.hid hnew
  have HROOM := Lib.hid hroom
  have hq' : bits BinOp.and IntKind.i64 a0 65535 = (q : Int) := hq
  have HQ := Lib.hid hq'
  clear hnew hroom hq hq'
  go_enter Try.func4, Try.ntmps4
  go_wp2_with fail
  refine (shown_any _).mono ?_
  rintro e w1 ⟨rfl, hb1⟩
  have HB1 := Lib.hid hb1
  clear hb1
  have hqq := HQ.out
  have hro := HROOM.out
  go_upto_region 3 with fail
  clear hqq hro
  go_wp2_with fail
  refine (wire_new _ (room : Int) room HNEW.out (by omega)).mono ?_
  rintro e w2 ⟨rfl, hb2, hs2⟩
  have hg : w.heap.size ≤ w1.heap.size := HB1.out.size
  have hwo : OrdW w w1.heap.size room [] [] [] (.slice none 0 0) (.slice none 0 0) w2 :=
    ⟨HB1.out.trans (hb2.mono HB1.out.size), hs2.lower hg, OffRow.nil _ _ _ _, OffRow.nil _ _ _ _, fun k h => by simp [Value.ownBlock] at h, fun p hp => by simp at hp⟩
  have HWO := Lib.hid hwo
  clear hb2 hs2 hwo
  go_wp2_with fail
  go_loopw [7, 8, 9] (fun vw vo i wr => ∃ k : Nat, k ≤ len1 ∧ i = .int .i64 k ∧ k ≤ 200 ∧ OrdI w w1.heap.size room k vw vo wr) (fun _ _ i _ => len1 - (intOf i).toNat)
  case atStart => exact ⟨0, Nat.zero_le _, rfl, by omega, [], [], [], HWO.out, rfl, by simp, by simp⟩
  case round =>
    obtain ⟨k, hk, rfl, hk200, l, W, O, hor, hwnt, hwl2, hlr⟩ := hrel
    obtain ⟨Aw, cw, rfl⟩ := hor.wa.slice
    obtain ⟨Ao, co, rfl⟩ := hor.ou.slice
    have hol := ord_len hwnt
    have HOR := Lib.hid hor
    have HWNT := Lib.hid hwnt
    have HBr := Lib.hid hor.bl
    clear hor hwnt HWO HB1
    have hmax : len1 ≤ 9223372036854775807 := by
      rcases r1 with ⟨_, h1, _⟩ | ⟨_, _, h1, h2, _⟩
      · omega
      · unfold maxLen at h2; omega
    by_cases hlt : k < len1 ∧ k < 200
    · obtain ⟨hlt, h200⟩ := hlt
      have hd : (decide ((k : Int) < 200)) = true := by simp; omega
      obtain ⟨x1, rfl, hlc1, _, hst⟩ := r1.resolve_left (by rintro ⟨_, h, _⟩; omega)
      obtain ⟨kd, A, n, c, z, fk, fn, fx, A', n', c', z', hst⟩ := hst k hlt
      obtain ⟨f, rfl, rfl, rfl, rfl, hfv⟩ := fault_of (fk := fk) hst.row' hst.num.1 hst.num.2.1 hst.num.2.2
      have hcc := hst.row.cap
      obtain ⟨m, hm1, hm2, hmin⟩ : ∃ m : Nat, m ≤ n ∧ m ≤ 200 ∧ (if (200 : Int) < (n : Int) then (200 : Int) else (n : Int)) = (m : Int) := by
        by_cases h : 200 < n
        · exact ⟨200, by omega, by omega, by rw [if_pos (by omega)]; rfl⟩
        · exact ⟨n, by omega, by omega, by rw [if_neg (by omega)]⟩
      obtain ⟨b, hb⟩ : ∃ b, b = toB (z.take m) := ⟨_, rfl⟩
      have hrd : ReadsB w (.slice A m c) b := by rw [hb]; exact row_reads (hst.row.cut hm1) (by omega)
      have hbl : b.length = m := by
        obtain ⟨_, _, he, _⟩ := id hrd
        cases he; rfl
      have hbl2 : b.length ≤ 200 := by omega
      have HMIN := Lib.hid hmin
      have HFV := Lib.hid hfv
      have HRD := Lib.hid hrd
      have HVC : Hid (∀ A1 n1 c1, Value.slice A m c = .slice A1 n1 c1 → c1 ≤ 9223372036854775807) := cap_lit hcc.2
      have hfb : f.b.length ≤ 9223372036854775807 := by
        obtain ⟨_, _, _, hq, _⟩ := hfv
        obtain ⟨_, _, h1, h2, h3, _⟩ := hq
        omega
      have d0 : wr.cell? (x1.add (k * 6)) = some (.int .i64 kd) := (HBr.out.cell (World.block_lt_of_cell? w _ hst.c0)).trans hst.c0
      have g : ∀ {q : Addr} {v : Value}, w.cell? q = some v → wr.cell? q = some v := fun hc => (HBr.out.cell (World.block_lt_of_cell? w _ hc)).trans hc
      have c1 := g hst.c1
      have c2 := g hst.c2
      have c3 := g hst.c3
      have c4 := g hst.c4
      have c5 := g hst.c5
      have d1 : wr.cell? ⟨(x1.add (k * 6)).block, (x1.add (k * 6)).off + 1, none⟩ = some (.slice A n c) := by simpa [Addr.add] using c1
      have d2 : wr.cell? ⟨(x1.add (k * 6)).block, (x1.add (k * 6)).off + 2, none⟩ = some (.int .i64 f.kind) := by simpa [Addr.add] using c2
      have d3 : wr.cell? ⟨(x1.add (k * 6)).block, (x1.add (k * 6)).off + 3, none⟩ = some (.int .i64 f.n) := by simpa [Addr.add] using c3
      have d4 : wr.cell? ⟨(x1.add (k * 6)).block, (x1.add (k * 6)).off + 4, none⟩ = some (.int .u8 f.x) := by simpa [Addr.add] using c4
      have d5 : wr.cell? ⟨(x1.add (k * 6)).block, (x1.add (k * 6)).off + 5, none⟩ = some (.slice A' f.b.length c') := by simpa [Addr.add] using c5
      have hn2 := hst.num.1
      have hx0 := hst.num.2.1
      have hx1 := hst.num.2.2
      clear g hst hfv hrd hb hbl hmin r1 c1 c2 c3 c4 c5
      have hwl : w.heap.size ≤ wr.heap.size := HBr.out.size
      go_upto_region 12 with fail
      go_cut [] (fun w' => Below wr.heap.size wr w' ∧ CoreW w wr.heap.size kd f (.slice A m c) (.slice A' f.b.length c') w')
      case first =>
        go_wp2_with fail
        refine (few_any _ A n c m HMIN.out hm1 hcc.1).mono ?_
        rintro e w4 ⟨rfl, rfl⟩
        go_wp2_with fail
        go_meet
        case rel => exact ⟨(Below.refl _ _).alloc (Nat.le_refl _) _, HBr.out.trans (((Below.refl _ _).alloc (Nat.le_refl _) _).mono hwl), blk_new _ _⟩
      case rest =>
      obtain ⟨w5, rfl⟩ : ∃ w5, w5 = wc := ⟨wc, rfl⟩
      obtain ⟨hb5, hcore⟩ := hcut
      have d6 : w5.cell? ⟨wr.heap.size, 0, none⟩ = some (.int .i64 kd) := blk_cell hcore.2 0
      have D6 := Lib.hid d6
      have hszle : wr.heap.size < w5.heap.size := blk_lt hcore.2
      have HO5 := Lib.hid (HOR.out.below hb5)
      have HC5 := Lib.hid hcore
      have ho200 := FT.of_small f b hbl2
      have hof := f.of_len b
      have HO200 := Lib.hid ho200
      have hsz5 : w.heap.size ≤ w5.heap.size := hcore.1.size
      clear hb5 hcore d0 d1 d2 d3 d4 d5 ho200 HOR
      by_cases hk2 : 2 < kd
      · have hd2 : decide (2 < kd) = true := by simpa using hk2
        have hl1 := take_len l
        have hl2 := take_out_len l
        have HS2 := Lib.hid (take_small HO5.out.sm)
        have htt := take_texts l
        have HTT := Lib.hid htt
        clear htt
        go_wp2_with fail
        refine (wire_take _ w.heap.size w1.heap.size room l HO5.out.wi (by omega)).mono ?_
        rintro e w7 ⟨v7, rfl, hr7, hk7, hs7⟩
        obtain ⟨L, hL⟩ : ∃ L, L = (takeF l).2 := ⟨_, rfl⟩
        obtain ⟨ls, hls⟩ : ∃ ls, ls = (takeF l).1 := ⟨_, rfl⟩
        rw [← hL] at hs7 hl1 HTT HS2
        rw [← hls] at hr7 hl2 HTT HS2
        clear hL hls
        obtain ⟨AL, cL, rfl⟩ := hr7.slice
        have HST := Lib.hid (HO5.out.kept hk7 hs7 HS2.out.2)
        have HRW := Lib.hid (hr7.lower (Nat.zero_le _))
        clear hr7 hk7 hs7 HO5 HC5 d6
        go_wp2_with fail
        go_loopw [8, 12] (fun v i wr => ∃ j : Nat, j ≤ ls.length ∧ i = .int .i64 j ∧ OrdO w w1.heap.size room L W O ls (.slice Aw W.length cw) (.slice AL ls.length cL) v j wr) (fun _ i _ => ls.length - (intOf i).toNat)
        case atStart => exact ⟨0, Nat.zero_le _, rfl, by simpa using HST.out, HRW.out⟩
        case round =>
          obtain ⟨j, hj, rfl, hoj, hrj⟩ := hrel
          obtain ⟨wi, rfl⟩ : ∃ x, x = wr := ⟨wr, rfl⟩
          obtain ⟨E, hE⟩ : ∃ E, E = O ++ ls.take j := ⟨_, rfl⟩
          rw [← hE] at hoj
          have hEl : E.length ≤ O.length + ls.length := by rw [hE]; simp; omega
          obtain ⟨Ae, ce, rfl⟩ := hoj.ou.slice
          have HO := Lib.hid hoj
          have HRJ := Lib.hid hrj
          have HE := Lib.hid hE
          clear hoj hE HST HRW
          by_cases hjl : j < ls.length
          · obtain ⟨ga, ca, A8, c8, he, hca, hca2, hcell, hown⟩ := hrj.at hjl
            cases he
            obtain ⟨X, hX⟩ : ∃ X, X = ls.getD j [] := ⟨_, rfl⟩
            rw [← hX] at hcell hown
            have hXs : X.length ≤ 200 := HS2.out.1 X (by rw [hX, List.getD, List.getElem?_eq_getElem hjl]; exact List.getElem_mem hjl)
            have hcv := rows_small hown hXs
            have HX := Lib.hid hX
            have HOW := Lib.hid hown
            have hne : wi.heap.size ≤ wi.heap.size := Nat.le_refl _
            have hwi : w.heap.size ≤ wi.heap.size := HO.out.bl.size
            clear hX hown hrj
            go_wp2_with (at_builtin; go_loud (refine wpList_append_off2 rfl (.tmp 58) (.tmp 64) 37 rfl w.heap.size 9 i0 (.string ⟨#[]⟩) 1 16 Try.underlying37 hi hz0 hz1 hz2 rfl (by decide) (.slice Ae E.length ce) E.length (E.map strV) rfl ?_ ⟨wi.heap.size, 0, none⟩ 1 1 [.string ⟨X.toArray⟩] rfl rfl ?_ ?_ ?_ ?_ ?_ (by decide) ?_))
            · exact HO.out.ou.below ((Below.refl _ _).alloc (Nat.le_refl _) _)
            · exact news_one (blk_new _ _)
            · simp [Value.oneCell']
            · unfold maxLen; omega
            · omega
            · simp; omega
            intro v2 w2' ho3 hgr3 hv3
            obtain ⟨A3, c3, rfl⟩ := ho3.slice
            have HO3 := Lib.hid ho3
            have HG3 := Lib.hid hgr3
            have HV3 := Lib.hid hv3
            clear ho3 hgr3 hv3
            go_wp2_with fail
            go_roundw
            case rel =>
              obtain ⟨p1, p2⟩ := HO.out.outs HG3.out HO3.out HV3.out
              have e9 : O ++ ls.take (j + 1) = E ++ [X] := by rw [take_snoc' ls j hjl, ← HX.out, HE.out, List.append_assoc]
              exact ⟨j + 1, by omega, by go_num, by rw [e9]; exact p1, HRJ.out.kept p2 (by decide) (by decide)⟩
            case measure => simp [intOf]; omega
          · obtain rfl : j = ls.length := by omega
            have e9 : E = O ++ ls := by rw [HE.out, List.take_length]
            have E9 := Lib.hid e9
            clear e9 hrj
            go_wp2_with fail
            go_roundw
            case rel =>
              have hE9 := E9.out
              have htt := HTT.out
              have hw9 := HWNT.out
              refine ⟨k + 1, by omega, by go_num, by omega, L, W, E, HO.out, ?_, by omega, by omega⟩
              rw [hw9, hE9, ← htt, List.append_assoc]
            case measure => simp [intOf]; omega
      · have hd2 : decide (2 < kd) = false := by simpa using hk2
        obtain ⟨nn, L, hF⟩ : ∃ n l', putF room l f b = (n, l') := ⟨_, _, rfl⟩
        have hF0 := put_answer hF
        have hF1 := put_texts hF
        have hF2 := put_room hF hlr
        have HSM' := Lib.hid (HO5.out.sm.put hbl2 hF)
        have HF := Lib.hid hF
        have HF1 := Lib.hid hF1
        clear hF hF1
        obtain ⟨_, c1, c2, c3, c4, c5, _⟩ := core_all HRD.out HC5.out
        have HFV5 := Lib.hid (HFV.out.below HC5.out.1)
        have HRD5 := Lib.hid (HRD.out.below HC5.out.1)
        go_wp2_with fail
        refine (wire_put _ w.heap.size w1.heap.size room l L nn _ (.slice A m c) f b HO5.out.wi HFV5.out HRD5.out hbl2 HVC.out (by omega) HF.out).mono ?_
        rintro e w6 ⟨rfl, hk6, hs6⟩
        have HO6 := Lib.hid (HO5.out.kept hk6 hs6 HSM'.out)
        have hc6 := core_kept HC5.out (kept_put hk6)
        have HC6 := Lib.hid hc6
        obtain ⟨_, c1, c2, c3, c4, c5, _⟩ := core_all HRD.out hc6
        have HFV6 := Lib.hid (HFV.out.below hc6.1)
        have HRD6 := Lib.hid (HRD.out.below hc6.1)
        clear hk6 hs6 hc6 HO5 HC5 HFV5 HRD5 d6
        go_wp2_with fail
        refine (of_any _ _ (.slice A m c) f b HFV6.out HRD6.out hbl2 HVC.out).mono ?_
        rintro e w7 ⟨v7, rfl, hr7, hb7⟩
        obtain ⟨ls, hls⟩ : ∃ ls, ls = f.of b := ⟨_, rfl⟩
        have ho200 : ∀ x ∈ ls, x.length ≤ 200 := by
          have := (HO6.out.sm)
          intro x hx
          rw [hls] at hx
          have hs := Small.put (room := 2) (l := []) (l' := heldF (f.of b) f.held) (f := f) (b := b) (n := 0) (fun p hp => by simp at hp) hbl2 (by unfold putF; rw [if_neg (by simp; omega)]; rfl)
          rw [← heldF_fst (f.of b) f.held] at hx
          obtain ⟨p, hp, rfl⟩ := List.mem_map.1 hx
          exact hs p hp
        have HO2 := Lib.hid ho200
        rw [← hls] at hr7 hof HF1
        clear hls ho200
        obtain ⟨AL, cL, rfl⟩ := hr7.slice
        have HST := Lib.hid (HO6.out.below hb7)
        have HRW := Lib.hid (hr7.lower (Nat.zero_le _))
        clear hr7 hb7 HO6 HC6 c1 c2 c3 c4 c5
        rcases hF0 with rfl | rfl
        · have hF3 := HF1.out
          rw [if_pos rfl] at hF3
          have HF3 := Lib.hid hF3
          clear hF3
          go_wp2_with fail
          go_loopw [7, 15] (fun v i wr => ∃ j : Nat, j ≤ ls.length ∧ i = .int .i64 j ∧ OrdP w w1.heap.size room L W O ls (.slice Ao O.length co) (.slice AL ls.length cL) v j wr) (fun _ i _ => ls.length - (intOf i).toNat)
          case atStart => exact ⟨0, Nat.zero_le _, rfl, by simpa using HST.out, HRW.out⟩
          case round =>
            obtain ⟨j, hj, rfl, hoj, hrj⟩ := hrel
            obtain ⟨wi, rfl⟩ : ∃ x, x = wr := ⟨wr, rfl⟩
            obtain ⟨E, hE⟩ : ∃ E, E = W ++ ls.take j := ⟨_, rfl⟩
            rw [← hE] at hoj
            have hEl : E.length ≤ W.length + ls.length := by rw [hE]; simp; omega
            obtain ⟨Ae, ce, rfl⟩ := hoj.wa.slice
            have HO := Lib.hid hoj
            have HRJ := Lib.hid hrj
            have HE := Lib.hid hE
            clear hoj hE HST HRW
            by_cases hjl : j < ls.length
            · obtain ⟨ga, ca, A8, c8, he, hca, hca2, hcell, hown⟩ := hrj.at hjl
              cases he
              obtain ⟨X, hX⟩ : ∃ X, X = ls.getD j [] := ⟨_, rfl⟩
              rw [← hX] at hcell hown
              have hXs : X.length ≤ 200 := HO2.out X (by rw [hX, List.getD, List.getElem?_eq_getElem hjl]; exact List.getElem_mem hjl)
              have hcv := rows_small hown hXs
              have HX := Lib.hid hX
              have HOW := Lib.hid hown
              have hne : wi.heap.size ≤ wi.heap.size := Nat.le_refl _
              have hwi : w.heap.size ≤ wi.heap.size := HO.out.bl.size
              clear hX hown hrj
              go_wp2_with (at_builtin; go_loud (refine wpList_append_off2 rfl (.tmp 87) (.tmp 93) 37 rfl w.heap.size 9 i0 (.string ⟨#[]⟩) 1 16 Try.underlying37 hi hz0 hz1 hz2 rfl (by decide) (.slice Ae E.length ce) E.length (E.map strV) rfl ?_ ⟨wi.heap.size, 0, none⟩ 1 1 [.string ⟨X.toArray⟩] rfl rfl ?_ ?_ ?_ ?_ ?_ (by decide) ?_))
              · exact HO.out.wa.below ((Below.refl _ _).alloc (Nat.le_refl _) _)
              · exact news_one (blk_new _ _)
              · simp [Value.oneCell']
              · unfold maxLen; omega
              · omega
              · simp; omega
              intro v2 w2' ho3 hgr3 hv3
              obtain ⟨A3, c3, rfl⟩ := ho3.slice
              have HO3 := Lib.hid ho3
              have HG3 := Lib.hid hgr3
              have HV3 := Lib.hid hv3
              clear ho3 hgr3 hv3
              go_wp2_with fail
              go_roundw
              case rel =>
                obtain ⟨p1, p2⟩ := HO.out.wants HG3.out HO3.out HV3.out
                have e9 : W ++ ls.take (j + 1) = E ++ [X] := by rw [take_snoc' ls j hjl, ← HX.out, HE.out, List.append_assoc]
                exact ⟨j + 1, by omega, by go_num, by rw [e9]; exact p1, HRJ.out.kept p2 (by decide) (by decide)⟩
              case measure => simp [intOf]; omega
            · obtain rfl : j = ls.length := by omega
              have e9 : E = W ++ ls := by rw [HE.out, List.take_length]
              have E9 := Lib.hid e9
              clear e9 hrj
              go_wp2_with fail
              refine (wire_len _ w.heap.size w1.heap.size room L HO.out.wi).mono ?_
              rintro e w9 ⟨rfl, rfl⟩
              go_wp2_with fail
              go_roundw
              case rel =>
                have hE9 := E9.out
                have hw9 := HWNT.out
                have h39 := HF3.out
                refine ⟨k + 1, by omega, by go_num, by omega, L, E, O, HO.out, ?_, by omega, by omega⟩
                rw [hE9, h39, hw9, List.append_assoc]
              case measure => simp [intOf]; omega
        · have hF3 := HF1.out
          rw [if_neg (by decide), List.append_nil] at hF3
          have HF3 := Lib.hid hF3
          clear hF3
          go_wp2_with fail
          go_loopw [7, 15] (fun v i wr => v = .slice Aw W.length cw ∧ i = .int .i64 0 ∧ OrdW w w1.heap.size room L W O (.slice Aw W.length cw) (.slice Ao O.length co) wr) (fun _ _ _ => 0)
          case atStart => exact ⟨rfl, rfl, HST.out⟩
          case round =>
            obtain ⟨rfl, rfl, hoj⟩ := hrel
            obtain ⟨wi, rfl⟩ : ∃ x, x = wr := ⟨wr, rfl⟩
            have HO := Lib.hid hoj
            clear hoj HST HRW
            by_cases h0 : 0 < ls.length
            · have hd0 : decide (0 < ls.length) = true := by simpa using h0
              go_wp2_with fail
              refine (wire_len _ w.heap.size w1.heap.size room L HO.out.wi).mono ?_
              rintro e w9 ⟨rfl, rfl⟩
              go_wp2_with fail
              go_roundw
              case rel => exact ⟨k + 1, by omega, by go_num, by omega, L, W, O, HO.out, by have := HF3.out; have h8 := HWNT.out; rw [this]; exact h8, by omega, by omega⟩
              case measure => simp [intOf]; omega
            · have hd0 : decide (0 < ls.length) = false := by simpa using h0
              go_wp2_with fail
              refine (wire_len _ w.heap.size w1.heap.size room L HO.out.wi).mono ?_
              rintro e w9 ⟨rfl, rfl⟩
              go_wp2_with fail
              go_roundw
              case rel => exact ⟨k + 1, by omega, by go_num, by omega, L, W, O, HO.out, by have := HF3.out; have h8 := HWNT.out; rw [this]; exact h8, by omega, by omega⟩
              case measure => simp [intOf]; omega
    · have hdue : due l ≤ 17 * room := by have := due_le l HOR.out.wi.hh; omega
      have hcase : (¬ k < len1) ∨ (k < len1 ∧ decide ((k : Int) < 200) = false) := by
        by_cases h : k < len1
        · exact .inr ⟨h, by simp; omega⟩
        · exact .inl h
      clear hlt r1
      rcases hcase with hk1 | ⟨hk1, hd⟩
      all_goals
        go_wp2_with fail
        go_loopw [8, 16] (fun v i wr => ∃ j : Nat, j ≤ 20 * room ∧ i = .int .i64 j ∧ OrdJ w w1.heap.size room j W (.slice Aw W.length cw) v wr) (fun _ i _ => 20 * room - (intOf i).toNat)
        case atStart => exact ⟨0, Nat.zero_le _, rfl, l, O, HOR.out, HWNT.out, hlr, hdue⟩
        case round =>
          obtain ⟨i, hi20, rfl, l, O, hor, hwnt, hlr, hdue⟩ := hrel
          obtain ⟨Ao, co, rfl⟩ := hor.ou.slice
          have hol := ord_len hwnt
          have HOR := Lib.hid hor
          have HWNT := Lib.hid hwnt
          clear hor hwnt
          by_cases hlt : i < 20 * room
          · have hl1 := take_len l
            have hl2 := take_out_len l
            have HS2 := Lib.hid (take_small HOR.out.sm)
            have HTT := Lib.hid (take_texts l)
            have hdt := due_take l
            go_wp2_with fail
            refine (wire_take _ w.heap.size w1.heap.size room l HOR.out.wi (by omega)).mono ?_
            rintro e w7 ⟨v7, rfl, hr7, hk7, hs7⟩
            obtain ⟨L, hL⟩ : ∃ L, L = (takeF l).2 := ⟨_, rfl⟩
            obtain ⟨ls, hls⟩ : ∃ ls, ls = (takeF l).1 := ⟨_, rfl⟩
            rw [← hL] at hs7 hl1 HTT HS2 hdt
            rw [← hls] at hr7 hl2 HTT HS2
            clear hL hls
            obtain ⟨AL, cL, rfl⟩ := hr7.slice
            have HST := Lib.hid (HOR.out.kept hk7 hs7 HS2.out.2)
            have HRW := Lib.hid (hr7.lower (Nat.zero_le _))
            clear hr7 hk7 hs7
            go_wp2_with fail
            go_loopw [8, 18] (fun v i wr => ∃ j : Nat, j ≤ ls.length ∧ i = .int .i64 j ∧ OrdO w w1.heap.size room L W O ls (.slice Aw W.length cw) (.slice AL ls.length cL) v j wr) (fun _ i _ => ls.length - (intOf i).toNat)
            case atStart => exact ⟨0, Nat.zero_le _, rfl, by simpa using HST.out, HRW.out⟩
            case round =>
              obtain ⟨j, hj, rfl, hoj, hrj⟩ := hrel
              obtain ⟨wi, rfl⟩ : ∃ x, x = wr := ⟨wr, rfl⟩
              obtain ⟨E, hE⟩ : ∃ E, E = O ++ ls.take j := ⟨_, rfl⟩
              rw [← hE] at hoj
              have hEl : E.length ≤ O.length + ls.length := by rw [hE]; simp; omega
              obtain ⟨Ae, ce, rfl⟩ := hoj.ou.slice
              have HO := Lib.hid hoj
              have HRJ := Lib.hid hrj
              have HE := Lib.hid hE
              clear hoj hE HST HRW
              by_cases hjl : j < ls.length
              · obtain ⟨ga, ca, A8, c8, he, hca, hca2, hcell, hown⟩ := hrj.at hjl
                cases he
                obtain ⟨X, hX⟩ : ∃ X, X = ls.getD j [] := ⟨_, rfl⟩
                rw [← hX] at hcell hown
                have hXs : X.length ≤ 200 := HS2.out.1 X (by rw [hX, List.getD, List.getElem?_eq_getElem hjl]; exact List.getElem_mem hjl)
                have hcv := rows_small hown hXs
                have HX := Lib.hid hX
                have HOW := Lib.hid hown
                have hne : wi.heap.size ≤ wi.heap.size := Nat.le_refl _
                have hwi : w.heap.size ≤ wi.heap.size := HO.out.bl.size
                clear hX hown hrj
                go_wp2_with (at_builtin; go_loud (refine wpList_append_off2 rfl (.tmp 121) (.tmp 127) 37 rfl w.heap.size 9 i0 (.string ⟨#[]⟩) 1 16 Try.underlying37 hi hz0 hz1 hz2 rfl (by decide) (.slice Ae E.length ce) E.length (E.map strV) rfl ?_ ⟨wi.heap.size, 0, none⟩ 1 1 [.string ⟨X.toArray⟩] rfl rfl ?_ ?_ ?_ ?_ ?_ (by decide) ?_))
                · exact HO.out.ou.below ((Below.refl _ _).alloc (Nat.le_refl _) _)
                · exact news_one (blk_new _ _)
                · simp [Value.oneCell']
                · unfold maxLen; omega
                · omega
                · simp; omega
                intro v2 w2' ho3 hgr3 hv3
                obtain ⟨A3, c3, rfl⟩ := ho3.slice
                have HO3 := Lib.hid ho3
                have HG3 := Lib.hid hgr3
                have HV3 := Lib.hid hv3
                clear ho3 hgr3 hv3
                go_wp2_with fail
                go_roundw
                case rel =>
                  obtain ⟨p1, p2⟩ := HO.out.outs HG3.out HO3.out HV3.out
                  have e9 : O ++ ls.take (j + 1) = E ++ [X] := by rw [take_snoc' ls j hjl, ← HX.out, HE.out, List.append_assoc]
                  exact ⟨j + 1, by omega, by go_num, by rw [e9]; exact p1, HRJ.out.kept p2 (by decide) (by decide)⟩
                case measure => simp [intOf]; omega
              · obtain rfl : j = ls.length := by omega
                have e9 : E = O ++ ls := by rw [HE.out, List.take_length]
                have E9 := Lib.hid e9
                clear e9 hrj
                go_wp2_with fail
                go_roundw
                case rel =>
                  have hE9 := E9.out
                  have htt := HTT.out
                  have hw9 := HWNT.out
                  refine ⟨i + 1, by omega, by go_num, L, E, HO.out, ?_, by omega, by omega⟩
                  rw [hw9, hE9, ← htt, List.append_assoc]
                case measure => simp [intOf]; omega
          · obtain rfl := due_nil l (by omega)
            have hWO : W = O := by have := HWNT.out; simpa using this
            subst hWO
            have hll : ¬ ((W.length : Int) < (W.length : Int)) := by omega
            have hWl : W.length ≤ 400 := by omega
            go_wp2_with fail
            refine (wire_len _ w.heap.size w1.heap.size room [] HOR.out.wi).mono ?_
            rintro e w9 ⟨rfl, rfl⟩
            obtain ⟨wj, rfl⟩ : ∃ x, x = wr := ⟨wr, rfl⟩
            go_wp2_with fail
            go_loopw [19] (fun i wr => ∃ j : Nat, j ≤ W.length ∧ i = .int .i64 j ∧ Below wj.heap.size wj wr) (fun i _ => W.length - (intOf i).toNat)
            case atStart => exact ⟨0, Nat.zero_le _, rfl, Below.refl _ _⟩
            case round =>
              obtain ⟨j, hj, rfl, hbj⟩ := hrel
              have HBJ := Lib.hid hbj
              by_cases hlt2 : j < W.length
              · have h1 := HOR.out.below hbj
                obtain ⟨ad1, _, he1, hc1, hc2, hx1⟩ := h1.wa.cellAt1 hlt2
                obtain ⟨ad2, _, he2, hc3, hc4, hx2⟩ := h1.ou.cellAt1 hlt2
                cases he1
                cases he2
                have e3 : (W.map strV).getD j undef = .string ⟨(W.getD j []).toArray⟩ := by
                  simp [List.getD, List.getElem?_eq_getElem hlt2, strV]
                rw [e3] at hx1 hx2
                clear e3 h1 hbj
                go_wp2_with fail
                go_quiet (fail)
                go_wp2_with fail
                go_roundw
                case rel => exact ⟨j + 1, by omega, by go_num, below_drewN HBJ.out _⟩
                case measure => simp [intOf]; omega
              · obtain rfl : j = W.length := by omega
                clear hbj
                go_wp2_with fail
                go_ret
                exact ⟨rfl, HOR.out.bl.trans (HBJ.out.mono HOR.out.bl.size)⟩
end Go.Proofs.Ytcdanimdkkhamaa
