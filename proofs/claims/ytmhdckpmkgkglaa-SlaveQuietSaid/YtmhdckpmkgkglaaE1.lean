/- The walk of lamplightlaw08.SlaveTells. -/
import Derived.Test.YtmhdckpmkgkglaaSt
import Derived.Test.YtmhdckpmkgkglaaRx
import Derived.Test.YtmhdckpmkgkglaaSh
import Derived.Test.YtmhdckpmkgkglaaEq
import Derived.Deep.DeepCutAuto
set_option linter.unusedVariables false
set_option linter.unusedSimpArgs false
namespace Go.Proofs.Ytmhdckpmkgkglaa
open Go.RowKit

theorem below_refl_drew (w : World) : Below w.heap.size w w.drew := (Below.refl _ _).drew

def TellsR (w wr : World) (a0 : Int) (g h : Nat) : Prop :=
  Below w.heap.size w wr ∧ ∃ S : SS, SlaveAt wr g g S ∧ RefAt wr h S ∧ S.addr = a0 ∧ 0 ≤ S.num ∧ S.num ≤ 255

def TellsH (w : World) (g h : Nat) (S : SS) (w' : World) : Prop := Below w.heap.size w w' ∧ SlaveAt w' g g S ∧ RefAt w' h S
theorem tells_all {w w' : World} {g h : Nat} {S : SS} (hb : Below w.heap.size w w') (hs : SlaveAt w' g g S) (hr : RefAt w' h S) :
    TellsH w g h S w' ∧ w'.cell? ⟨g, 0, none⟩ = some (.int .u8 S.num) ∧ w'.cell? ⟨g, 1, none⟩ = some (.int .u8 S.tells) ∧ w'.cell? ⟨g, 2, none⟩ = some (.int .u8 S.next) ∧
      w'.cell? ⟨h, 1, none⟩ = some (.int .u8 S.num) ∧ w'.cell? ⟨h, 4, none⟩ = some (.string ⟨S.pend.toArray⟩) := by
  obtain ⟨v, hv, _⟩ := hs.ex
  exact ⟨⟨hb, hs, hr⟩, blk_cell hv 0, blk_cell hv 1, blk_cell hv 2, blk_cell hr 1, blk_cell hr 4⟩
theorem tells_step {w w' w2 : World} {g h : Nat} {S : SS} {X : Prop} (hT : TellsH w g h S w' ∧ X) (hk : Below w'.heap.size w' w2) :
    TellsH w g h S w2 ∧ w2.cell? ⟨g, 0, none⟩ = some (.int .u8 S.num) ∧ w2.cell? ⟨g, 1, none⟩ = some (.int .u8 S.tells) ∧ w2.cell? ⟨g, 2, none⟩ = some (.int .u8 S.next) ∧
      w2.cell? ⟨h, 1, none⟩ = some (.int .u8 S.num) ∧ w2.cell? ⟨h, 4, none⟩ = some (.string ⟨S.pend.toArray⟩) :=
  tells_all (hT.1.1.trans (hk.mono hT.1.1.size)) (hT.1.2.1.below hk) (blk_below' hT.1.2.2 hk)
theorem offer_keeps {S S1 : SS} {b : List UInt8} {n : Int} (h : offerF S b = (n, S1)) : S1.addr = S.addr ∧ S1.num = S.num := by
  unfold offerF at h
  split at h
  · cases h; exact ⟨rfl, rfl⟩
  · split at h
    · cases h; exact ⟨rfl, rfl⟩
    · cases h; exact ⟨rfl, rfl⟩
theorem take_keeps {S S1 : SS} {f r : FR} {cmd : List UInt8} {ok : Bool} (h : takeF S f = (r, cmd, ok, S1)) (h0 : 0 ≤ S.num) (h1 : S.num ≤ 255) (f0 : 0 ≤ f.sess) (f1 : f.sess ≤ 255) : S1.addr = S.addr ∧ 0 ≤ S1.num ∧ S1.num ≤ 255 := by
  unfold takeF at h
  split at h
  · cases h; exact ⟨rfl, h0, h1⟩
  · split at h
    · cases h; exact ⟨rfl, f0, f1⟩
    · split at h
      · cases h; exact ⟨rfl, h0, h1⟩
      · cases h
        have a1 : ∀ T : SS, (T.took f).addr = T.addr ∧ (T.took f).num = T.num := fun T => by unfold SS.took; split <;> exact ⟨rfl, rfl⟩
        have a2 : (S.heard f).addr = S.addr ∧ (S.heard f).num = S.num := by unfold SS.heard; split <;> exact ⟨rfl, rfl⟩
        exact ⟨(a1 _).1.trans a2.1, by rw [(a1 _).2, a2.2]; exact h0, by rw [(a1 _).2, a2.2]; exact h1⟩
theorem slave_ref_ne {w : World} {B g h : Nat} {S T : SS} (hs : SlaveAt w B g S) (hr : RefAt w h T) : h ≠ g := by
  rintro rfl
  obtain ⟨v, hv, _⟩ := hs.ex
  unfold RefAt at hr
  rw [hv] at hr
  simp at hr

def TakeH (w : World) (g h : Nat) (S : SS) (bx ay : Nat) (r : FR) (v1 v2 : Value) (cmd : List UInt8) (w' : World) : Prop :=
  TellsH w g h S w' ∧ w'.heap[bx]? = some (.cells #[.int .u8 r.addr, .int .u8 r.kind, .int .u8 r.sess, .int .u8 r.seq, .int .u8 r.ack, v1] 29) ∧
    w'.heap[ay]? = some (.cells #[.int .u8 r.addr, .int .u8 r.kind, .int .u8 r.sess, .int .u8 r.seq, .int .u8 r.ack, .string ⟨r.b.toArray⟩] 46) ∧ ReadsB w' v1 r.b ∧ ReadsB w' v2 cmd
theorem take_all {w : World} {g h : Nat} {S : SS} {bx ay : Nat} {r : FR} {v1 v2 : Value} {cmd : List UInt8} {w' : World} (hT : TakeH w g h S bx ay r v1 v2 cmd w') :
    TakeH w g h S bx ay r v1 v2 cmd w' ∧ w'.cell? ⟨bx, 0, none⟩ = some (.int .u8 r.addr) ∧ w'.cell? ⟨bx, 1, none⟩ = some (.int .u8 r.kind) ∧ w'.cell? ⟨bx, 2, none⟩ = some (.int .u8 r.sess) ∧ w'.cell? ⟨bx, 3, none⟩ = some (.int .u8 r.seq) ∧ w'.cell? ⟨bx, 4, none⟩ = some (.int .u8 r.ack) ∧ w'.cell? ⟨bx, 5, none⟩ = some v1 ∧
      w'.cell? ⟨ay, 0, none⟩ = some (.int .u8 r.addr) ∧ w'.cell? ⟨ay, 1, none⟩ = some (.int .u8 r.kind) ∧ w'.cell? ⟨ay, 2, none⟩ = some (.int .u8 r.sess) ∧ w'.cell? ⟨ay, 3, none⟩ = some (.int .u8 r.seq) ∧ w'.cell? ⟨ay, 4, none⟩ = some (.int .u8 r.ack) ∧ w'.cell? ⟨ay, 5, none⟩ = some (.string ⟨r.b.toArray⟩) ∧
      (convert 22 9 v2).run Try.prog w' = .ok (.string ⟨cmd.toArray⟩) w' := by
  obtain ⟨a, b, c, d, e⟩ := hT
  exact ⟨⟨a, b, c, d, e⟩, blk_cell b 0, blk_cell b 1, blk_cell b 2, blk_cell b 3, blk_cell b 4, blk_cell b 5, blk_cell c 0, blk_cell c 1, blk_cell c 2, blk_cell c 3, blk_cell c 4, blk_cell c 5, conv_bytes _ _ _ e⟩
theorem take_below {w : World} {g h : Nat} {S : SS} {bx ay : Nat} {r : FR} {v1 v2 : Value} {cmd : List UInt8} {w' w2 : World} (hT : TakeH w g h S bx ay r v1 v2 cmd w') (hk : Below w'.heap.size w' w2) :
    TakeH w g h S bx ay r v1 v2 cmd w2 :=
  ⟨⟨hT.1.1.trans (hk.mono hT.1.1.size), hT.1.2.1.below hk, blk_below' hT.1.2.2 hk⟩, blk_below' hT.2.1 hk, blk_below' hT.2.2.1 hk, hT.2.2.2.1.below hk, hT.2.2.2.2.below hk⟩
theorem take_step {w : World} {g h : Nat} {S : SS} {bx ay : Nat} {r : FR} {v1 v2 : Value} {cmd : List UInt8} {w' w2 : World} {X : Prop} (hT : TakeH w g h S bx ay r v1 v2 cmd w' ∧ X) (hk : Below w'.heap.size w' w2) :
    TakeH w g h S bx ay r v1 v2 cmd w2 ∧ w2.cell? ⟨bx, 0, none⟩ = some (.int .u8 r.addr) ∧ w2.cell? ⟨bx, 1, none⟩ = some (.int .u8 r.kind) ∧ w2.cell? ⟨bx, 2, none⟩ = some (.int .u8 r.sess) ∧ w2.cell? ⟨bx, 3, none⟩ = some (.int .u8 r.seq) ∧ w2.cell? ⟨bx, 4, none⟩ = some (.int .u8 r.ack) ∧ w2.cell? ⟨bx, 5, none⟩ = some v1 ∧
      w2.cell? ⟨ay, 0, none⟩ = some (.int .u8 r.addr) ∧ w2.cell? ⟨ay, 1, none⟩ = some (.int .u8 r.kind) ∧ w2.cell? ⟨ay, 2, none⟩ = some (.int .u8 r.sess) ∧ w2.cell? ⟨ay, 3, none⟩ = some (.int .u8 r.seq) ∧ w2.cell? ⟨ay, 4, none⟩ = some (.int .u8 r.ack) ∧ w2.cell? ⟨ay, 5, none⟩ = some (.string ⟨r.b.toArray⟩) ∧
      (convert 22 9 v2).run Try.prog w2 = .ok (.string ⟨cmd.toArray⟩) w2 :=
  take_all (take_below hT.1 hk)

set_option maxHeartbeats 4000000 in
set_option maxRecDepth 100000 in
theorem tells_walk (a0 : Int) (a1 : Option Addr) (len1 cap1 : Nat) (w : World) (w0 : (Lit.int .u8 a0).wf = true) (r1 : StepsIn w a1 len1 cap1) :
    Calls Try.prog 5 #[.int .u8 a0, .slice a1 len1 cap1] w fun e w' => e = .returned (.bool true) ∧ Below w.heap.size w w' := by
  obtain ⟨ha0, ha1⟩ := wf_u8 w0
  go_enter Try.func5, Try.ntmps5
  go_wp2_with fail
  refine (shown_any _).mono ?_
  rintro e w1 ⟨rfl, hb1⟩
  have HB1 := Lib.hid hb1
  clear hb1
  go_wp2_with fail
  refine (slave_new _ a0).mono ?_
  rintro e w2 ⟨rfl, hb2, hs2⟩
  have HB2 : Hid (Below w.heap.size w w2) := HB1.out.trans (hb2.mono HB1.out.size)
  have HS2 : Hid (SlaveAt w2 w1.heap.size w1.heap.size (SS.new a0)) := hs2
  have hg : w.heap.size ≤ w1.heap.size := HB1.out.size
  have hz : w1.heap.size < w2.heap.size := hs2.lt
  clear hb2 hs2
  go_wp2_with fail
  refine (ref_new _ a0).mono ?_
  rintro e w3 ⟨rfl, hb3, hs3⟩
  have HB3 : Hid (Below w.heap.size w w3) := HB2.out.trans (hb3.mono HB2.out.size)
  have HS3 : Hid (SlaveAt w3 w1.heap.size w1.heap.size (SS.new a0)) := HS2.out.below hb3
  have HR3 : Hid (RefAt w3 w2.heap.size (SS.new a0)) := hs3
  clear hb3 hs3
  go_wp2_with fail
  go_loopw [7, 8] (fun b i wr => ∃ (k h : Nat), k ≤ len1 ∧ i = .int .i64 k ∧ b = .pointer (some ⟨h, 0, none⟩) ∧ w.heap.size ≤ h ∧ TellsR w wr a0 w1.heap.size h) (fun _ i _ => len1 - (intOf i).toNat)
  case atStart => exact ⟨0, w2.heap.size, Nat.zero_le _, rfl, rfl, by omega, HB3.out, SS.new a0, HS3.out, HR3.out, rfl, by simp [SS.new], by simp [SS.new]⟩
  case round =>
    obtain ⟨k, h, hk, rfl, rfl, hh, hbr, S, hsr, hrr, hS0, hS1, hS2⟩ := hrel
    have HBr := Lib.hid hbr
    have HSr := Lib.hid hsr
    have HRr := Lib.hid hrr
    clear hbr hsr hrr HB3 HS3 HR3 HB2 HS2 HB1
    have hmax : len1 ≤ 9223372036854775807 := by
      rcases r1 with ⟨_, h1, _⟩ | ⟨_, _, h1, h2, _⟩
      · omega
      · unfold maxLen at h2; omega
    by_cases hlt : k < len1
    · by_cases h30 : k < 300
      · have hd : (decide ((k : Int) < 300)) = true := by simp; omega
        obtain ⟨x1, rfl, hlc1, _, hst⟩ := r1.resolve_left (by rintro ⟨_, h, _⟩; omega)
        obtain ⟨kd, fa, fk, fs, fq, fc, A, n, cp, z, own, hst⟩ := hst k hlt
        have HI := Lib.hid (hst.below HBr.out)
        have HJ := Lib.hid hst
        obtain ⟨c0, c1, c2, c3, c4, c5, c6, c7, hrow, hs1, hs2⟩ := HI.out
        have HRow := Lib.hid hrow
        have d1 : wr.cell? ⟨(x1.add (k * 8)).block, (x1.add (k * 8)).off + 1, none⟩ = some (.int .u8 fa) := by simpa [Addr.add] using c1
        have d2 : wr.cell? ⟨(x1.add (k * 8)).block, (x1.add (k * 8)).off + 1 + 1, none⟩ = some (.int .u8 fk) := by simpa [Addr.add] using c2
        have d3 : wr.cell? ⟨(x1.add (k * 8)).block, (x1.add (k * 8)).off + 1 + 2, none⟩ = some (.int .u8 fs) := by simpa [Addr.add] using c3
        have d4 : wr.cell? ⟨(x1.add (k * 8)).block, (x1.add (k * 8)).off + 1 + 3, none⟩ = some (.int .u8 fq) := by simpa [Addr.add] using c4
        have d5 : wr.cell? ⟨(x1.add (k * 8)).block, (x1.add (k * 8)).off + 1 + 4, none⟩ = some (.int .u8 fc) := by simpa [Addr.add] using c5
        have d6 : wr.cell? ⟨(x1.add (k * 8)).block, (x1.add (k * 8)).off + 1 + 5, none⟩ = some (.slice A n cp) := by simpa [Addr.add] using c6
        have d7 : wr.cell? ⟨(x1.add (k * 8)).block, (x1.add (k * 8)).off + 7, none⟩ = some (.bool own) := by simpa [Addr.add] using c7
        have hpb : (x1.add (k * 8)).block < wr.heap.size := World.block_lt_of_cell? wr _ c0
        clear hst hrow c1 c2 c3 c4 c5 c6 c7 r1
        obtain ⟨m, hm1, hm2, hmin⟩ : ∃ m : Nat, m ≤ n ∧ m ≤ 40 ∧ (if (40 : Int) < (n : Int) then (40 : Int) else (n : Int)) = (m : Int) := by
          by_cases h : 40 < n
          · exact ⟨40, by omega, by omega, by rw [if_pos (by omega)]; rfl⟩
          · exact ⟨n, by omega, by omega, by rw [if_neg (by omega)]⟩
        have hncp := HRow.out.cap.1
        have hcpm := HRow.out.cap.2
        have hgw : w1.heap.size < wr.heap.size := HSr.out.lt
        have hhw : h < wr.heap.size := blk_lt HRr.out
        have hne : h ≠ w1.heap.size := slave_ref_ne HSr.out HRr.out
        go_upto_if 51 with fail
        go_cut [] (fun wc => Below wr.heap.size wr wc ∧ ∃ fa' fs', wc.heap[wr.heap.size]? = some (.cells #[.int .u8 fa', .int .u8 fk, .int .u8 fs', .int .u8 fq, .int .u8 fc, .slice A m cp] 29) ∧ 0 ≤ fs' ∧ fs' ≤ 255)
        case first =>
          cases own with
          | true =>
            obtain ⟨vv, hblk, _⟩ := HSr.out.ex
            have q0 : ∀ o, (wr.alloc o).cell? ⟨w1.heap.size, 0, none⟩ = some (.int .u8 S.num) := fun o => blk_cell (blk_alloc hblk o) 0
            have q1 : ∀ o, (wr.alloc o).cell? ⟨w1.heap.size, 1, none⟩ = some (.int .u8 S.tells) := fun o => blk_cell (blk_alloc hblk o) 1
            have q2 : ∀ o, (wr.alloc o).cell? ⟨w1.heap.size, 2, none⟩ = some (.int .u8 S.next) := fun o => blk_cell (blk_alloc hblk o) 2
            clear hblk
            go_wp2_with fail
            refine (session_any _ S.num S.tells S.next).mono ?_
            rintro e w5 ⟨rfl, hb5⟩
            have hw5 : w5.heap[wr.heap.size]? = some (.cells #[.int .u8 a0, .int .u8 fk, .int .u8 fs, .int .u8 fq, .int .u8 fc, .slice A m cp] 29) := blk_below' (blk_new _ _) hb5
            have hbl5 : Below wr.heap.size wr w5 := ((Below.refl _ _).alloc (Nat.le_refl _) _).trans (hb5.mono (by simp))
            have p2 := blk_cell hw5 2
            have p2' := blk_frozen hw5 2
            simp at p2
            have HW5 := Lib.hid hw5
            have HBL5 := Lib.hid hbl5
            clear hw5 hbl5 hb5
            go_wp2_with fail
            go_meet
            case rel => exact ⟨HBL5.out.setCell (Nat.le_refl _) _, a0, S.num, by have := blk_set HW5.out 2 (.int .u8 S.num); simpa using this, hS1, hS2⟩
          | false =>
            go_wp2_with fail
            go_meet
            case rel => exact ⟨(Below.refl _ _).alloc (Nat.le_refl _) _, fa, fs, blk_new _ _, hs1, hs2⟩
        case rest =>
          obtain ⟨hbc, fa', fs', hbox, hf1, hf2⟩ := hcut
          have HBc := Lib.hid hbc
          have HBox := Lib.hid hbox
          have c0' : wc.cell? (x1.add (k * 8)) = some (.int .i64 kd) := (hbc.cell hpb).trans c0
          have HB2 : Hid (Below w.heap.size w wc) := HBr.out.trans (hbc.mono HBr.out.size)
          have HS2 : Hid (SlaveAt wc w1.heap.size w1.heap.size S) := HSr.out.below hbc
          have HR2 : Hid (RefAt wc h S) := blk_below' HRr.out hbc
          have HRow2 : Hid (IsRow8 wc A n cp z) := HRow.out.below hbc (B := 0)
          clear hbc hbox d1 d2 d3 d4 d5 d6 d7 HSr HRr HRow c0 HI
          go_upto_region 15 with fail
          go_cut [64] (fun s w' => s = .int .i64 kd ∧ w' = wc)
          case first =>
            go_wp2_with fail
            go_meet
            case rel => exact ⟨rfl, rfl⟩
          case rest =>
            obtain ⟨rfl, rfl⟩ := hcut
            go_step
            obtain ⟨bl, hbl⟩ : ∃ bl, bl = toB (z.take m) := ⟨_, rfl⟩
            have hrd : ReadsB wc (.slice A m cp) bl := by rw [hbl]; exact row_reads (HRow2.out.cut hm1) (by omega)
            have hng : NotIn w1.heap.size (.slice A m cp) bl := by rw [hbl]; exact HJ.out.row.notIn hg
            have hnh : NotIn h (.slice A m cp) bl := by rw [hbl]; exact HJ.out.row.notIn hh
            have HRd := Lib.hid hrd
            have HNg := Lib.hid hng
            have HNh := Lib.hid hnh
            clear hrd hng hnh hbl c0'
            have hgc : w1.heap.size < wc.heap.size := HS2.out.lt
            have hbxc : wr.heap.size < wc.heap.size := blk_lt HBox.out
            go_cut [7, 10] (fun b ok w' => ok = .bool true ∧ ∃ h', b = .pointer (some ⟨h', 0, none⟩) ∧ w.heap.size ≤ h' ∧ TellsR w w' a0 w1.heap.size h')
            case first =>
              by_cases k0 : kd = 0
              · subst k0
                obtain ⟨nn, S1, hF⟩ : ∃ n S1, offerF S bl = (n, S1) := ⟨_, _, rfl⟩
                have hK := offer_keeps hF
                have HF := Lib.hid hF
                clear hF
                have hbx5 := blk_cell HBox.out 5
                go_upto_region 17 with fail
                go_region_held3 (fun w' => w'.cell? ⟨wr.heap.size, 5, none⟩ = some (.slice A m cp) ∧ (convert 22 9 (.slice A m cp)).run Try.prog w' = .ok (.string ⟨bl.toArray⟩) w')
                  ((first
                    | exact ⟨by simpa using hbx5, conv_bytes _ _ bl (HRd.out.below (below_refl_drew _))⟩
                    | exact ⟨blk_cell (blk_grown (blk_grown (blk_drew HBox.out) hgr4 (by simp; omega)) hgr5 (by simp; omega)) 5, conv_bytes _ _ bl (((HRd.out.below (below_refl_drew _)).grown hgr4 HNg.out).grown hgr5 HNh.out)⟩
                    | exact ⟨blk_cell (blk_grown (blk_drew HBox.out) hgr4 (by simp; omega)) 5, conv_bytes _ _ bl ((HRd.out.below (below_refl_drew _)).grown hgr4 HNg.out)⟩))
                  ((first
                    | (go_at_call 12; refine (slave_offer _ w1.heap.size w1.heap.size S S1 (.slice A m cp) bl nn ?_ ?_ HF.out).mono ?_; (exact HS2.out.below (below_refl_drew _)); (exact HRd.out.below (below_refl_drew _)); rintro e w4 ⟨rfl, hgr4, hs4⟩)
                    | (go_at_call 17; refine (ref_offer _ h S S1 bl nn ?_ HF.out).mono ?_; (exact blk_grown (blk_drew HR2.out) hgr4 (by simpa using hne)); rintro e w5 ⟨rfl, hgr5, hs5⟩)))
                go_wp2_with fail
                go_meet
                case rel =>
                  have hsz := hgr4.size
                  have HB4 : Below w.heap.size w w4 := law_step HB2.out HB2.out.size (below_refl_drew _) hgr4 hg
                  have HB5 : Below w.heap.size w w5 := HB4.trans (below_grown hgr5 HB4.size (by rintro _ ⟨⟩; exact hh))
                  have hr4 : RefAt w4 h S := blk_grown (blk_drew HR2.out) hgr4 (by simpa using hne)
                  exact ⟨by simp, h, rfl, hh, HB5, S1, hs4.grown hgr5 hr4 (by decide), hs5, hK.1.trans hS0, by rw [hK.2]; exact hS1, by rw [hK.2]; exact hS2⟩
              · by_cases k15 : 1 ≤ kd ∧ kd ≤ 5
                · obtain ⟨r, cmd, okb, S1, hF⟩ : ∃ r cmd okb S1, takeF S ⟨fa', fk, fs', fq, fc, bl⟩ = (r, cmd, okb, S1) := ⟨_, _, _, _, rfl⟩
                  have hK := take_keeps hF hS1 hS2 hf1 hf2
                  have hL := take_len hF HS2.out.len
                  have hbll : bl.length ≤ 140737488355328 := by
                    obtain ⟨_, _, he, h1, h2, _⟩ := HRd.out
                    omega
                  simp only [] at hL
                  have HF := Lib.hid hF
                  clear hF
                  obtain ⟨b0, b1, b2, b3, b4, b5⟩ := blk6 HBox.out
                  have hkk : kd = 1 ∨ kd = 2 ∨ kd = 3 ∨ kd = 4 ∨ kd = 5 := by omega
                  rcases hkk with rfl | rfl | rfl | rfl | rfl
                  all_goals
                    go_wp2_with fail
                    refine (slave_take _ w1.heap.size w1.heap.size S S1 ⟨fa', fk, fs', fq, fc, bl⟩ r cmd okb A m cp HS2.out HRd.out HNg.out HF.out).mono ?_
                    rintro e w4 ⟨v1, v2, rfl, ho1, ho2, hgr4, hs4⟩
                    obtain ⟨A4, c4, rfl⟩ := own_slice ho1
                    obtain ⟨A5, c5, rfl⟩ := own_slice ho2
                    have hx4 := blk_grown HBox.out hgr4 (by simp; omega)
                    have hr4 : RefAt w4 h S := blk_grown HR2.out hgr4 (by simpa using hne)
                    have hb4 : Below w.heap.size w w4 := HB2.out.trans (below_grown hgr4 HB2.out.size (by rintro _ ⟨⟩; exact hg))
                    have rd4 : ReadsB w4 (.slice A m cp) bl := HRd.out.grown hgr4 HNg.out
                    have p0 : ∀ o, (w4.alloc o).cell? ⟨wr.heap.size, 0, none⟩ = some (.int .u8 fa') := fun o => blk_cell (blk_alloc hx4 o) 0
                    have p1 : ∀ o, (w4.alloc o).cell? ⟨wr.heap.size, 1, none⟩ = some (.int .u8 fk) := fun o => blk_cell (blk_alloc hx4 o) 1
                    have p2 : ∀ o, (w4.alloc o).cell? ⟨wr.heap.size, 2, none⟩ = some (.int .u8 fs') := fun o => blk_cell (blk_alloc hx4 o) 2
                    have p3 : ∀ o, (w4.alloc o).cell? ⟨wr.heap.size, 3, none⟩ = some (.int .u8 fq) := fun o => blk_cell (blk_alloc hx4 o) 3
                    have p4 : ∀ o, (w4.alloc o).cell? ⟨wr.heap.size, 4, none⟩ = some (.int .u8 fc) := fun o => blk_cell (blk_alloc hx4 o) 4
                    have p5 : ∀ o, (w4.alloc o).cell? ⟨wr.heap.size, 5, none⟩ = some (.slice A m cp) := fun o => blk_cell (blk_alloc hx4 o) 5
                    have HR4 := Lib.hid hr4
                    have HB4 := Lib.hid hb4
                    have HS4 := Lib.hid hs4
                    have HO1 := Lib.hid ho1
                    have HO2 := Lib.hid ho2
                    have HRd4 := Lib.hid rd4
                    have hsz4 : wc.heap.size ≤ w4.heap.size := hgr4.size
                    have hb0 : w.heap.size ≤ w4.heap.size := hb4.size
                    have hh4 : h < w4.heap.size := blk_lt hr4
                    clear hx4 hr4 hb4 hs4 ho1 ho2 rd4 hgr4 b0 b1 b2 b3 b4 b5
                    go_wp2_with fail
                    refine (of_any _ fa' fk fs' fq fc (.slice A m cp) bl (HRd4.out.below ((Below.refl _ _).alloc (Nat.le_refl _) _))).mono ?_
                    rintro e w5 ⟨rfl, hb5⟩
                    have hy5 := blk_below' (blk_new w4 _) hb5
                    have hk5 : Below w4.heap.size w4 w5 := ((Below.refl _ _).alloc (Nat.le_refl _) _).trans (hb5.mono (by simp))
                    have HY5 := Lib.hid hy5
                    have HK5 := Lib.hid hk5
                    clear hb5 hy5 hk5 p0 p1 p2 p3 p4 p5
                    go_wp2_with fail
                    refine (ref_take _ h S S1 ⟨fa', fk, fs', fq, fc, bl⟩ r cmd okb (blk_below' HR4.out HK5.out) HS2.out.t01 HS2.out.x01 HF.out).mono ?_
                    rintro e w6 ⟨rfl, hgr6, hr6⟩
                    have hb6 : Below w.heap.size w w6 := (HB4.out.trans (HK5.out.mono hb0)).trans (below_grown hgr6 (Nat.le_trans hb0 HK5.out.size) (by rintro _ ⟨⟩; exact hh))
                    have hs6 : SlaveAt w6 w1.heap.size w1.heap.size S1 := (HS4.out.below HK5.out).grown hgr6 (blk_below' HR4.out HK5.out) (by decide)
                    have hy6 := blk_grown HY5.out hgr6 (by simp; omega)
                    have ho6 := own_grown (own_below HO1.out HK5.out) hgr6 (fun k hk e => by have := (own_lt HO1.out k hk).1; cases e; omega)
                    have hp6 := own_grown (own_below HO2.out HK5.out) hgr6 (fun k hk e => by have := (own_lt HO2.out k hk).1; cases e; omega)
                    have hT : TakeH w w1.heap.size h S1 w4.heap.size w6.heap.size r (.slice A4 r.b.length c4) (.slice A5 cmd.length c5) cmd (w6.alloc (.cells #[.int .u8 r.addr, .int .u8 r.kind, .int .u8 r.sess, .int .u8 r.seq, .int .u8 r.ack, .string ⟨r.b.toArray⟩] 46)) :=
                      ⟨⟨hb6.alloc hb6.size _, hs6.below ((Below.refl _ _).alloc (Nat.le_refl _) _), blk_alloc hr6 _⟩, blk_alloc hy6 _, blk_new _ _, own_reads (own_below ho6 ((Below.refl _ _).alloc (Nat.le_refl _) _)) (by omega), own_reads (own_below hp6 ((Below.refl _ _).alloc (Nat.le_refl _) _)) (by omega)⟩
                    have HT := Lib.hid hT
                    clear hb6 hs6 hy6 ho6 hp6 hT hr6 hgr6
                    have keq := eq46
                    have kgd := guard46
                    go_upto_region 25 with fail
                    go_region_held3 (fun w' => TakeH w w1.heap.size h S1 w4.heap.size w6.heap.size r (.slice A4 r.b.length c4) (.slice A5 cmd.length c5) cmd w' ∧ w'.cell? ⟨w4.heap.size, 0, none⟩ = some (.int .u8 r.addr) ∧ w'.cell? ⟨w4.heap.size, 1, none⟩ = some (.int .u8 r.kind) ∧ w'.cell? ⟨w4.heap.size, 2, none⟩ = some (.int .u8 r.sess) ∧ w'.cell? ⟨w4.heap.size, 3, none⟩ = some (.int .u8 r.seq) ∧ w'.cell? ⟨w4.heap.size, 4, none⟩ = some (.int .u8 r.ack) ∧ w'.cell? ⟨w4.heap.size, 5, none⟩ = some (.slice A4 r.b.length c4) ∧
      w'.cell? ⟨w6.heap.size, 0, none⟩ = some (.int .u8 r.addr) ∧ w'.cell? ⟨w6.heap.size, 1, none⟩ = some (.int .u8 r.kind) ∧ w'.cell? ⟨w6.heap.size, 2, none⟩ = some (.int .u8 r.sess) ∧ w'.cell? ⟨w6.heap.size, 3, none⟩ = some (.int .u8 r.seq) ∧ w'.cell? ⟨w6.heap.size, 4, none⟩ = some (.int .u8 r.ack) ∧ w'.cell? ⟨w6.heap.size, 5, none⟩ = some (.string ⟨r.b.toArray⟩) ∧
      (convert 22 9 (.slice A5 cmd.length c5)).run Try.prog w' = .ok (.string ⟨cmd.toArray⟩) w')
                      ((first
                        | exact take_all (take_below HT.out (below_refl_drew _))
                        | assumption
                        | exact take_step (by assumption) (by assumption)))
                      ((first
                        | (go_at_call 19; refine (of_any _ r.addr r.kind r.sess r.seq r.ack (.slice A4 r.b.length c4) r.b ?_).mono ?_; (exact (‹TakeH w w1.heap.size h S1 w4.heap.size w6.heap.size r (.slice A4 r.b.length c4) (.slice A5 cmd.length c5) cmd _ ∧ _›).1.2.2.2.1); rintro e w7 ⟨rfl, hb7⟩)))
                    go_wp2_with fail
                    have hT := (‹TakeH w w1.heap.size h S1 w4.heap.size w6.heap.size r (.slice A4 r.b.length c4) (.slice A5 cmd.length c5) cmd _ ∧ _›).1.1
                    go_meet
                    case rel => exact ⟨by simp, h, rfl, hh, hT.1, S1, hT.2.1, hT.2.2, hK.1.trans hS0, hK.2.1, hK.2.2⟩
                · by_cases k6 : kd = 6
                  · subst k6
                    go_wp2_with fail
                    refine (slave_reset _ w1.heap.size w1.heap.size S HS2.out).mono ?_
                    rintro e w4 ⟨rfl, hgr4, hs4⟩
                    have HB4 : Hid (Below w.heap.size w w4) := HB2.out.trans (below_grown hgr4 HB2.out.size (by rintro _ ⟨⟩; exact hg))
                    have HS4 := Lib.hid hs4
                    have hg4 : w.heap.size ≤ w4.heap.size := HB4.out.size
                    clear hgr4 hs4
                    go_wp2_with fail
                    refine (ref_new _ a0).mono ?_
                    rintro e w5 ⟨rfl, hb5, hr5⟩
                    have HB5 : Hid (Below w.heap.size w w5) := HB4.out.trans (hb5.mono HB4.out.size)
                    have HS5 : Hid (SlaveAt w5 w1.heap.size w1.heap.size (SS.new S.addr)) := HS4.out.below hb5
                    have HR5 := Lib.hid hr5
                    clear hb5 hr5
                    go_wp2_with fail
                    go_meet
                    case rel => exact ⟨rfl, w4.heap.size, rfl, hg4, HB5.out, SS.new a0, by have := HS5.out; rwa [hS0] at this, HR5.out, rfl, by simp [SS.new], by simp [SS.new]⟩
                  · have e0 : (kd == 0) = false := by simpa using k0
                    have e1 : (kd == 1) = false := by simp; omega
                    have e2 : (kd == 2) = false := by simp; omega
                    have e3 : (kd == 3) = false := by simp; omega
                    have e4 : (kd == 4) = false := by simp; omega
                    have e5 : (kd == 5) = false := by simp; omega
                    have e6 : (kd == 6) = false := by simpa using k6
                    go_wp2_with fail
                    go_meet
                    case rel => exact ⟨rfl, h, rfl, hh, HB2.out, S, HS2.out, HR2.out, hS0, hS1, hS2⟩
            case rest =>
              obtain ⟨rfl, h', rfl, hh', hbe, S', hse, hre, hE0, hE1, hE2⟩ := hcut
              have HBe := Lib.hid hbe
              have HSe := Lib.hid hse
              have HRe := Lib.hid hre
              clear hbe hse hre
              obtain ⟨e0, he, hd'⟩ : ∃ e0 : Bool, S'.pend.isEmpty = e0 ∧ decide (0 < S'.pend.length) = !e0 := by
                rcases hp : S'.pend with _ | ⟨u, v⟩
                · exact ⟨true, rfl, by simp⟩
                · exact ⟨false, rfl, by simp⟩
              go_upto_region 29 with fail
              cases e0
              all_goals
                go_region_held3 (fun w' => TellsH w w1.heap.size h' S' w' ∧ w'.cell? ⟨w1.heap.size, 0, none⟩ = some (.int .u8 S'.num) ∧ w'.cell? ⟨w1.heap.size, 1, none⟩ = some (.int .u8 S'.tells) ∧ w'.cell? ⟨w1.heap.size, 2, none⟩ = some (.int .u8 S'.next) ∧ w'.cell? ⟨h', 1, none⟩ = some (.int .u8 S'.num) ∧ w'.cell? ⟨h', 4, none⟩ = some (.string ⟨S'.pend.toArray⟩))
                  ((first
                    | exact tells_all (HBe.out.drew) (HSe.out.below (below_refl_drew _)) (blk_drew HRe.out)
                    | assumption
                    | exact tells_step (by assumption) (by assumption)))
                  ((first
                    | (go_at_call 14; refine (slave_pending _ w1.heap.size w1.heap.size S' ?_).mono ?_; (exact (‹TellsH w w1.heap.size h' S' _ ∧ _›).1.2.1); rintro e w4 ⟨rfl, rfl⟩)
                    | (go_at_call 16; refine (session_any _ S'.num S'.tells S'.next).mono ?_; rintro e w5 ⟨rfl, hb5⟩)))
                go_wp2_with fail
                have hT := (‹TellsH w w1.heap.size h' S' _ ∧ _›).1
                go_roundw
                case rel => exact ⟨k + 1, h', by omega, by go_num, rfl, hh', hT.1, S', hT.2.1, hT.2.2, hE0, hE1, hE2⟩
                case measure => simp [intOf]; omega
      · have hd : (decide ((k : Int) < 300)) = false := by simp; omega
        go_wp2_with fail
        go_ret
        exact ⟨rfl, HBr.out⟩
    · go_wp2_with fail
      go_ret
      exact ⟨rfl, HBr.out⟩
end Go.Proofs.Ytmhdckpmkgkglaa
