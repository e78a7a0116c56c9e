/- Behind a reset: what the two exchanges are, and the line's two ends in memory. The walk of lamplightlaw08.SlaveReset. -/
import Derived.Test.YtmhdckpmkgkglaaOa
import Derived.Test.YtmhdckpmkgkglaaOb
import Derived.Test.YtmhdckpmkgkglaaNp
import Derived.Test.YtmhdckpmkgkglaaSh
import Derived.BigQuiet
import Derived.LoopTactic
set_option linter.unusedVariables false
set_option linter.unusedSimpArgs false
namespace Go.Proofs.Ytmhdckpmkgkglaa
open Go.RowKit

theorem reset_take (M : MS) (ha : M.addr = 3) (hst : M.state = 1) (hn : M.num = 1) : takeF (SS.new 3) M.nextF = (⟨3, 5, 0, 0, 0, []⟩, [], true, SS.new 3) := by
  have hf : M.nextF.addr = 3 ∧ (M.nextF.kind = 2 ∨ M.nextF.kind = 3) := by
    unfold MS.nextF
    rw [if_neg (by omega)]
    split
    · exact ⟨ha, .inr rfl⟩
    · exact ⟨ha, .inl rfl⟩
  unfold takeF
  rw [if_neg (by have : (SS.new 3).addr = 3 := rfl; omega), if_neg (by omega), if_pos (.inl rfl)]
  rfl
theorem reset_next_len (M : MS) (h : ∀ b ∈ M.queue, b.length ≤ 24) : M.nextF.b.length ≤ 24 := by
  unfold MS.nextF
  split
  · simp
  · split
    · simp
    · rename_i b bs e
      exact h b (by rw [e]; simp)
def MS.shut (M : MS) : MS := ({ M with misses := 0 } : MS).close 0
theorem reset_heard (M : MS) (ha : M.addr = 3) (hst : M.state = 1) (hn : M.num = 1) : M.heardF ⟨3, 5, 0, 0, 0, []⟩ = ([], true, M.shut) := by
  unfold MS.heardF
  rw [if_neg (by rw [ha]; decide), if_neg (by omega), if_pos (by rw [hn]; decide)]
  rfl
theorem shut_next (M : MS) (ha : M.addr = 3) (hn : M.num = 1) : M.shut.nextF = ⟨3, 1, 2, 0, 0, []⟩ := by
  unfold MS.nextF
  rw [if_pos (by show (0 : Int) ≠ 1; decide)]
  show (⟨M.addr, 1, M.num % 255 + 1, 0, 0, []⟩ : FR) = _
  rw [ha, hn]
  rfl
theorem shut_take : takeF (SS.new 3) ⟨3, 1, 2, 0, 0, []⟩ = (⟨3, 4, 2, 0, 0, []⟩, [], true, ⟨3, 2, 0, 0, []⟩) := by
  unfold takeF SS.new
  rw [if_neg (by decide), if_pos (by decide)]
theorem shut_heard (M : MS) (ha : M.addr = 3) (hn : M.num = 1) : M.shut.heardF ⟨3, 4, 2, 0, 0, []⟩ = ([], true, ({ M.shut with misses := 0 } : MS).opens) := by
  have h1 : M.shut.addr = 3 := ha
  have h2 : M.shut.num = 2 := by show M.num % 255 + 1 = 2; rw [hn]; rfl
  have h3 : M.shut.state = 0 := rfl
  unfold MS.heardF
  rw [if_neg (by rw [h1]; decide), if_pos (by rw [h3]; decide), if_neg (by rw [h2]; decide)]

/-- The two ends of the line, and its block. -/
structure RL (w w1 : World) (B x gm gs : Nat) (M : MS) (S : SS) : Prop where
  be : Below w.heap.size w w1
  le : w.heap.size ≤ B
  ge : B ≤ x
  blk : ∃ a2 a3 a4 a5 a6 a7, w1.heap[x]? = some (.cells #[.pointer (some ⟨gm, 0, none⟩), .pointer (some ⟨gs, 0, none⟩), a2, a3, a4, a5, a6, a7] 63 (0, 0))
  m : MasterAt w1 B gm M
  s : SlaveAt w1 B gs S
/-- The pointers to the ends. -/
def Ends (x gm gs : Nat) (w : World) : Prop := w.cell? ⟨x, 1, none⟩ = some (.pointer (some ⟨gs, 0, none⟩)) ∧ w.cell? ⟨x, 0, none⟩ = some (.pointer (some ⟨gm, 0, none⟩))
section
variable {w W w1 w2 : World} {B x gm gs : Nat} {M M' : MS} {S S' : SS}
theorem RL.ends (h : RL w w1 B x gm gs M S) : Ends x gm gs w1 := by
  obtain ⟨_, _, _, _, _, _, hb⟩ := h.blk
  exact ⟨blk_cell hb 1, blk_cell hb 0⟩
theorem RL.kept {ts : List TypeId} (h : RL w w1 B x gm gs M S) (k : Kept B ts w1 w2) (ht : 63 ∉ ts) (hm : MasterAt w2 B gm M') (hs : SlaveAt w2 B gs S') : RL w w2 B x gm gs M' S' := by
  obtain ⟨a2, a3, a4, a5, a6, a7, hb⟩ := h.blk
  exact ⟨stepK h.be h.be.size (Below.refl _ _) k h.le, h.le, h.ge, ⟨a2, a3, a4, a5, a6, a7, k.blk hb ht⟩, hm, hs⟩
theorem RL.below (h : RL w w1 B x gm gs M S) (hb : Below w1.heap.size w1 w2) : RL w w2 B x gm gs M S :=
  h.kept (ts := []) (Kept.of_below hb) (by simp) (h.m.below hb) (h.s.below hb)
theorem RL.lt (h : RL w w1 B x gm gs M S) : x < w1.heap.size := by
  obtain ⟨_, _, _, _, _, _, hb⟩ := h.blk
  exact blk_lt hb
/-- A box is written. -/
theorem RL.box {cs : Array Value} {fr : Nat × Nat} {bx : Nat} (h : RL w w1 B x gm gs M S) (hb : w1.heap[bx]? = some (.cells cs 29 fr)) (g : w1.grownBy w2 (some bx)) (hB : B ≤ bx) : RL w w2 B x gm gs M S := by
  have k : Kept B [29] w1 w2 := Kept.of_grown g hb (by simp) hB
  exact h.kept k (by decide) (h.m.kept k (by decide) (by decide) (by decide)) (h.s.kept k (by decide) (by decide))
theorem reads_nil {v : Value} (h : ReadsB w1 v []) : ReadsB w2 v [] := by
  obtain ⟨A, c, h1, h2, h3, h4, h5⟩ := h
  exact ⟨A, c, h1, h2, h3, h4, fun ad he j u hu => by simp [bytesV] at hu⟩
theorem RL.next {F : FR} (h : RL w W B x gm gs M S) (hN : M.nextF = F) :
    Calls Try.prog 26 #[.pointer (some ⟨gm, 0, none⟩)] W fun e w' => ∃ A c, e = .returned (.agg #[.int .u8 F.addr, .int .u8 F.kind, .int .u8 F.sess, .int .u8 F.seq, .int .u8 F.ack, .slice A F.b.length c]) ∧ RL w w' B x gm gs M S ∧ Below W.heap.size W w' ∧ w'.ownsRow W.heap.size 5 1 (.slice A F.b.length c) F.b.length (bytesV F.b) := by
  subst hN
  refine (master_next W B gm M h.m).mono ?_
  rintro e w' ⟨v1, rfl, ho, hb⟩
  obtain ⟨A, c, rfl⟩ := own_slice ho
  exact ⟨A, c, rfl, h.below hb, hb, ho⟩
theorem RL.take {F r : FR} {A : Option Addr} {c B' : Nat} (h : RL w W B x gm gs M S) (hT : takeF S F = (r, [], true, S')) (hr : r.b = []) (hF : F.b.length ≤ 24) (ho : W.ownsRow B' 5 1 (.slice A F.b.length c) F.b.length (bytesV F.b)) :
    Calls Try.prog 13 #[.pointer (some ⟨gs, 0, none⟩), .agg #[.int .u8 F.addr, .int .u8 F.kind, .int .u8 F.sess, .int .u8 F.seq, .int .u8 F.ack, .slice A F.b.length c]] W fun e w' =>
      ∃ A1 c1 A2 c2, e = .returned (.tuple #[.agg #[.int .u8 r.addr, .int .u8 r.kind, .int .u8 r.sess, .int .u8 r.seq, .int .u8 r.ack, .slice A1 0 c1], .slice A2 0 c2, .bool true]) ∧ RL w w' B x gm gs M S' ∧ W.grownBy w' (some gs) ∧ ReadsB w' (.slice A1 0 c1) [] := by
  obtain ⟨vv, hv, _⟩ := h.s.ex
  have hni : NotIn gs (.slice A F.b.length c) F.b := by
    intro ad n c' e hne he
    have hu : (Value.slice A F.b.length c).ownBlock = some ad.block := by rw [e]; rfl
    obtain ⟨cs', fr', hh⟩ := own_ty ho ad.block hu
    rw [he, hv] at hh
    cases hh
  refine (slave_take W B gs S S' F r [] true A F.b.length c h.s (own_reads ho (by omega)) hni hT).mono ?_
  rintro e w' ⟨v1, v2, rfl, ho1, ho2, hg, hs⟩
  obtain ⟨A1, c1, rfl⟩ := own_slice ho1
  obtain ⟨A2, c2, rfl⟩ := own_slice ho2
  rw [hr] at ho1
  have k : Kept B [43] W w' := Kept.of_grown hg hv (by simp) h.s.ge
  refine ⟨A1, c1, A2, c2, by rw [hr]; rfl, h.kept k (by decide) (h.m.kept k (by decide) (by decide) (by decide)) hs, hg, own_reads ho1 (by simp)⟩
theorem RL.heard {r : FR} {A : Option Addr} {c : Nat} (h : RL w W B x gm gs M S) (hH : M.heardF r = ([], true, M')) (hr : r.b = []) (hr' : ReadsB W (.slice A 0 c) []) (he0 : 0 ≤ M.epoch) (he1 : M.epoch ≤ 1000000000) :
    Calls Try.prog 27 #[.pointer (some ⟨gm, 0, none⟩), .agg #[.int .u8 r.addr, .int .u8 r.kind, .int .u8 r.sess, .int .u8 r.seq, .int .u8 r.ack, .slice A 0 c]] W fun e w' =>
      ∃ A2 c2, e = .returned (.tuple #[.slice A2 0 c2, .bool true]) ∧ RL w w' B x gm gs M' S ∧ Kept B [77, 22] W w' := by
  refine (masterK_heard W B gm M M' r A 0 c [] true (by rw [hr]; rfl) h.m (by rw [hr]; exact hr') (by rw [hr]; exact fun ad n c e hne => absurd rfl hne) he0 he1 hH).mono ?_
  rintro e w' ⟨v, rfl, ho, hk, hm⟩
  obtain ⟨A2, c2, rfl⟩ := own_slice ho
  exact ⟨A2, c2, rfl, h.kept hk (by decide) hm (h.s.kept hk (by decide) (by decide)), hk⟩
end
/-- Behind Take: its answer in a box. -/
def TakenR (w : World) (B x gm gs : Nat) (M : MS) (S : SS) (r : FR) (p c : Value) (w1 : World) : Prop :=
  ∃ bx A1 c1 A2 c2, p = .pointer (some ⟨bx, 0, none⟩) ∧ c = .slice A2 0 c2 ∧ RL w w1 B x gm gs M S ∧ w1.heap[bx]? = some (.cells #[.int .u8 r.addr, .int .u8 r.kind, .int .u8 r.sess, .int .u8 r.seq, .int .u8 r.ack, .slice A1 0 c1] 29 (0, 0)) ∧ ReadsB w1 (.slice A1 0 c1) []
/-- What the next region loads. -/
def BoxS (x gm bx : Nat) (r : FR) (u : Value) (w : World) : Prop :=
  w.cell? ⟨x, 0, none⟩ = some (.pointer (some ⟨gm, 0, none⟩)) ∧ w.cell? ⟨bx, 0, none⟩ = some (.int .u8 r.addr) ∧ w.cell? ⟨bx, 1, none⟩ = some (.int .u8 r.kind) ∧ w.cell? ⟨bx, 2, none⟩ = some (.int .u8 r.sess) ∧ w.cell? ⟨bx, 3, none⟩ = some (.int .u8 r.seq) ∧ w.cell? ⟨bx, 4, none⟩ = some (.int .u8 r.ack) ∧ w.cell? ⟨bx, 5, none⟩ = some u
theorem boxS_of {w w1 : World} {B x gm gs bx : Nat} {M : MS} {S : SS} {r : FR} {u : Value} (h : RL w w1 B x gm gs M S) (hb : w1.heap[bx]? = some (.cells #[.int .u8 r.addr, .int .u8 r.kind, .int .u8 r.sess, .int .u8 r.seq, .int .u8 r.ack, u] 29 (0, 0))) : BoxS x gm bx r u w1 :=
  ⟨h.ends.2, blk_cell hb 0, blk_cell hb 1, blk_cell hb 2, blk_cell hb 3, blk_cell hb 4, blk_cell hb 5⟩
theorem LineL.ends {w wr : World} {B x gm gs k : Nat} {L : LS} (h : LineL w wr B x gm gs L k) (hB : w.heap.size ≤ B) : RL w wr B x gm gs L.M L.S := by
  obtain ⟨vd, vu, ds, us, hl⟩ := h.at_
  exact ⟨h.be, hB, hl.ge, ⟨_, _, _, _, _, _, hl.blk⟩, hl.m, hl.s⟩

set_option maxHeartbeats 4000000 in
set_option maxRecDepth 100000 in
theorem reset_walk (a0 : Option Addr) (len0 cap0 : Nat) (w : World) (w0 : OpsIn w a0 len0 cap0) :
    Calls Try.prog 8 #[.slice a0 len0 cap0] w fun e w' => e = .returned (.bool true) ∧ Below w.heap.size w w' := by
  have hlen := w0.len
  have W0 := Lib.hid w0
  obtain ⟨i0, hi0, hz0, hz1, hz2⟩ := info_parts Try.info29
  clear w0
  go_enter Try.func8, Try.ntmps8
  go_wp2_with fail
  refine (shown_any _).mono ?_
  rintro e w1 ⟨rfl, hb1⟩
  have HB1 := Lib.hid hb1
  clear hb1
  go_wp2_with fail
  refine (line_opened _ LS.start rfl).mono ?_
  rintro e w2 ⟨x, gm, gs, rfl, hb2, hl2⟩
  have hB : w.heap.size ≤ w1.heap.size := HB1.out.size
  have HL2 : Hid (LineL w w2 w1.heap.size x gm gs LS.start 0) := ⟨HB1.out.trans (hb2.mono HB1.out.size), hl2, start_fine, Nat.le_refl _, Nat.le_refl _⟩
  clear hb2 hl2 HB1
  go_upto_block 0 with fail
  go_cut [] (fun w' => ∃ L, LineL w w' w1.heap.size x gm gs L 100)
  case first =>
    go_wp2_with fail
    go_loopw [5] (fun i wr => ∃ (k : Nat) (L : LS), k ≤ len0 ∧ k ≤ 100 ∧ i = .int .i64 k ∧ LineL w wr w1.heap.size x gm gs L k) (fun i _ => len0 - (intOf i).toNat)
    case atStart => exact ⟨0, LS.start, Nat.zero_le _, Nat.zero_le _, rfl, HL2.out⟩
    case round =>
      obtain ⟨k, L, hk, hk4, rfl, hlr⟩ := hrel
      have HLr := Lib.hid (hlr.up (j := 100) hk4)
      have HLk := Lib.hid hlr
      clear hlr HL2
      by_cases hlt : k < len0
      · by_cases h4 : k < 100
        · have hd : (decide ((k : Int) < 100)) = true := by simp; omega
          obtain ⟨x1, rfl, hlc1, hcm1, hst⟩ := W0.out.resolve_left (by rintro ⟨_, h, _⟩; omega)
          obtain ⟨kd, hkd⟩ := hst k hlt
          have hcell : wr.cell? (x1.add k) = some (.int .i64 kd) := (HLr.out.be.cell (World.block_lt_of_cell? w _ hkd)).trans hkd
          clear hst hkd
          go_wp2_with fail
          refine (line_does _ w1.heap.size x gm gs L kd HLr.out.at_ HLr.out.fine (by have := HLr.out.sent; omega) (by have := HLr.out.offered; omega)).mono ?_
          intro e w3 hd3
          obtain ⟨rfl, hl3⟩ := HLk.out.does hB hd3
          have HL3 := Lib.hid hl3
          clear hd3 hl3
          go_wp2_with fail
          go_roundw
          case rel => exact ⟨k + 1, _, by omega, by omega, by go_num, HL3.out⟩
          case measure => simp [intOf]; omega
        · have hd : (decide ((k : Int) < 100)) = false := by simp; omega
          go_wp2_with fail
          go_meet
          case rel => exact ⟨L, HLr.out⟩
      · go_wp2_with fail
        go_meet
        case rel => exact ⟨L, HLr.out⟩
  case rest =>
  obtain ⟨w3, rfl⟩ : ∃ w3, w3 = wc := ⟨wc, rfl⟩
  obtain ⟨L1, hl1⟩ := hcut
  obtain ⟨A, T, hi⟩ := hl1.fine
  have hma := hi.ma
  have hmst := hi.mst
  have hmn := hi.mn
  have hmep := hi.mep
  have hsa := hi.sa
  have hr1 := hl1.ends hB
  have HFL : Hid (L1.M.nextF.b.length ≤ 24) := reset_next_len _ (fun b hb => (hr1.m.ok.rows b hb).2)
  obtain ⟨F, hF⟩ : ∃ F, F = L1.M.nextF := ⟨_, rfl⟩
  have HNX : Hid (L1.M.nextF = F) := hF.symm
  rw [← hF] at HFL
  have HT1 : Hid (takeF (SS.new 3) F = (⟨3, 5, 0, 0, 0, []⟩, [], true, SS.new 3)) := by
    show takeF (SS.new 3) F = _
    rw [hF]
    exact reset_take _ hma hmst hmn
  have HH1 : Hid (L1.M.heardF ⟨3, 5, 0, 0, 0, []⟩ = ([], true, L1.M.shut)) := reset_heard _ hma hmst hmn
  have HN2 : Hid (L1.M.shut.nextF = ⟨3, 1, 2, 0, 0, []⟩) := shut_next _ hma hmn
  have HH2 : Hid (L1.M.shut.heardF ⟨3, 4, 2, 0, 0, []⟩ = ([], true, ({ L1.M.shut with misses := 0 } : MS).opens)) := shut_heard _ hma hmn
  have HE0 : Hid (0 ≤ L1.M.epoch) := by show 0 ≤ L1.M.epoch; omega
  have HE1 : Hid (L1.M.epoch ≤ 1000000000) := by show L1.M.epoch ≤ 1000000000; omega
  have HEP := Lib.hid hmep
  have HR1 := Lib.hid hr1
  obtain ⟨k0, k1⟩ := hr1.ends
  clear hl1 hi hma hmst hmn hmep hr1 HL2 hF
  go_wp2_with fail
  refine (slave_reset _ w1.heap.size gs L1.S HR1.out.s).mono ?_
  rintro e wa ⟨rfl, hga, hsa2⟩
  rw [hsa] at hsa2
  have HRa : Hid (RL w wa w1.heap.size x gm gs L1.M (SS.new 3)) := by
    obtain ⟨vv, hv, _⟩ := HR1.out.s.ex
    have k : Kept w1.heap.size [43] w3 wa := Kept.of_grown hga hv (by simp) HR1.out.s.ge
    exact HR1.out.kept k (by decide) (HR1.out.m.kept k (by decide) (by decide) (by decide)) hsa2
  clear hga hsa2 HR1 k0 k1 hsa
  have S4 : ∀ W, SlaveAt W w1.heap.size gs (SS.new 3) → Calls Try.prog 14 #[.pointer (some ⟨gs, 0, none⟩)] W fun e w' => e = .returned (.bool false) ∧ W = w' := by
    intro W hW
    exact slave_pending W w1.heap.size gs (SS.new 3) hW
  obtain ⟨k0, k1⟩ := HRa.out.ends
  go_wp2_with fail
  refine (S4 _ HRa.out.s).mono ?_
  rintro e w4 ⟨rfl, rfl⟩
  obtain ⟨vv, hv, _⟩ := HRa.out.s.ex
  have s0 := blk_cell hv 0
  have s1 := blk_cell hv 1
  have s2 := blk_cell hv 2
  simp [SS.new] at s0 s1 s2
  clear hv
  go_wp2_with fail
  refine (session_any _ 0 0 0).mono ?_
  rintro e w4 ⟨rfl, hb4⟩
  have HR4 : Hid (RL w w4 w1.heap.size x gm gs L1.M (SS.new 3)) := HRa.out.below hb4
  clear hb4 HRa k0 k1 s0 s1 s2
  go_upto_region 14 with fail
  obtain ⟨wa, hwa⟩ : ∃ z, z = w4 := ⟨_, rfl⟩
  subst hwa
  have HRa := HR4
  have HWB : Hid (w1.heap.size ≤ wa.heap.size) := by show w1.heap.size ≤ _; have h1 := HRa.out.m.ge; have h2 := HRa.out.m.lt; omega
  have HBZ : Hid (Below wa.heap.size wa ((wa.alloc (.cells #[.int .u8 0, .int .u8 0, .int .u8 0, .int .u8 0, .int .u8 0, .slice none 0 0] 29)).drew)) := ((Below.refl _ _).alloc (Nat.le_refl _) _).drew
  have HRD := Lib.hid (HRa.out.below (drew_below _))
  have HRZ := Lib.hid (HRa.out.below HBZ.out)
  have HZB : Hid (((wa.alloc (.cells #[.int .u8 0, .int .u8 0, .int .u8 0, .int .u8 0, .int .u8 0, .slice none 0 0] 29)).drew).heap[wa.heap.size]? = some (.cells #[.int .u8 0, .int .u8 0, .int .u8 0, .int .u8 0, .int .u8 0, .slice none 0 0] 29)) := blk_drew (blk_new _ _)
  have HNE : Hid (some wa.heap.size ≠ some gs) := fun e => by have := HRa.out.s.lt; cases e; omega
  go_cut [7, 8, 9] (fun p c o w' => o = .bool true ∧ TakenR w w1.heap.size x gm gs L1.M (SS.new 3) ⟨3, 5, 0, 0, 0, []⟩ p c w')
  case first =>
   as_aux_lemma =>
    refine wp_region_held_drew (S := fun w' => Ends x gm gs w') (by kernel_rfl) (HRD.out.ends) (fun hS0 => ?_)
    refine wpAnyH_takeD (i := 0) (d := (some 61)) (v := (.pointer (some ⟨x, 0, none⟩))) rfl rfl (by kernel_rfl) (by kernel_rfl) (by kernel_rfl) (fun _ _ _ h => h) (Or.inl ⟨by rfl, fun w hw => by obtain ⟨h1, h2⟩ := hw; go_simp⟩) hS0 ?_
    try simp only [Act.put, List.setIfInBounds_toArray, List.set_cons_zero, List.set_cons_succ]
    refine wpAnyH_takeD (i := 1) (d := (some 62)) (v := (.pointer (some ⟨x, 0, none⟩))) rfl rfl (by kernel_rfl) (by kernel_rfl) (by kernel_rfl) (fun _ _ _ h => h) (Or.inl ⟨by rfl, fun w hw => by obtain ⟨h1, h2⟩ := hw; go_simp⟩) hS0 ?_
    try simp only [Act.put, List.setIfInBounds_toArray, List.set_cons_zero, List.set_cons_succ]
    refine wpAnyH_takeD (i := 2) (d := (some 63)) (v := (.pointer (some ⟨x, 1, none⟩))) rfl rfl (by kernel_rfl) (by kernel_rfl) (by kernel_rfl) (fun _ _ _ h => h) (Or.inl ⟨by rfl, fun w hw => by obtain ⟨h1, h2⟩ := hw; go_simp⟩) hS0 ?_
    try simp only [Act.put, List.setIfInBounds_toArray, List.set_cons_zero, List.set_cons_succ]
    refine wpAnyH_takeD (i := 3) (d := (some 64)) (v := (.pointer (some ⟨gs, 0, none⟩))) rfl rfl (by kernel_rfl) (by kernel_rfl) (by kernel_rfl) (fun _ _ _ h => h) (Or.inl ⟨by rfl, fun w hw => by obtain ⟨h1, h2⟩ := hw; go_simp⟩) hS0 ?_
    try simp only [Act.put, List.setIfInBounds_toArray, List.set_cons_zero, List.set_cons_succ]
    refine wpAnyH_takeD (i := 4) (d := (some 65)) (v := (.pointer (some ⟨x, 0, none⟩))) rfl rfl (by kernel_rfl) (by kernel_rfl) (by kernel_rfl) (fun _ _ _ h => h) (Or.inl ⟨by rfl, fun w hw => by obtain ⟨h1, h2⟩ := hw; go_simp⟩) hS0 ?_
    try simp only [Act.put, List.setIfInBounds_toArray, List.set_cons_zero, List.set_cons_succ]
    refine wpAnyH_takeD (i := 5) (d := (some 66)) (v := (.pointer (some ⟨x, 0, none⟩))) rfl rfl (by kernel_rfl) (by kernel_rfl) (by kernel_rfl) (fun _ _ _ h => h) (Or.inl ⟨by rfl, fun w hw => by obtain ⟨h1, h2⟩ := hw; go_simp⟩) hS0 ?_
    try simp only [Act.put, List.setIfInBounds_toArray, List.set_cons_zero, List.set_cons_succ]
    refine wpAnyH_takeD (i := 6) (d := (some 67)) (v := (.pointer (some ⟨x, 0, none⟩))) rfl rfl (by kernel_rfl) (by kernel_rfl) (by kernel_rfl) (fun _ _ _ h => h) (Or.inl ⟨by rfl, fun w hw => by obtain ⟨h1, h2⟩ := hw; go_simp⟩) hS0 ?_
    try simp only [Act.put, List.setIfInBounds_toArray, List.set_cons_zero, List.set_cons_succ]
    refine wpAnyH_takeD (i := 7) (d := (some 68)) (v := (.pointer (some ⟨gm, 0, none⟩))) rfl rfl (by kernel_rfl) (by kernel_rfl) (by kernel_rfl) (fun _ _ _ h => h) (Or.inl ⟨by rfl, fun w hw => by obtain ⟨h1, h2⟩ := hw; go_simp⟩) hS0 ?_
    try simp only [Act.put, List.setIfInBounds_toArray, List.set_cons_zero, List.set_cons_succ]
    refine wpAnyH_ready (rs := [8, 14]) (by kernel_rfl) (by simp) ?_
    refine AllReadyH.consD (d := (some 69)) rfl rfl (fun K hK => ?_) (AllReadyH.consD (d := (some 7)) rfl rfl (fun K hK => ?_) AllReadyH.nil)
    · go_simp
      go_at_call 26
      refine (RL.next HRD.out HNX.out).mono ?_
      rintro e wN ⟨A0, c0, rfl, hN1, hbN, hoN⟩
      go_wp2_with fail
      refine hK.out _ _ hN1.ends (fun hS1 => ?_)
      clear hK K
      try simp only [Act.put, List.setIfInBounds_toArray, List.set_cons_zero, List.set_cons_succ]
      refine wpAnyH_ready (rs := [9, 14]) (by kernel_rfl) (by simp) ?_
      refine AllReadyH.consD (d := (some 70)) rfl rfl (fun K hK => ?_) (AllReadyH.consD (d := (some 7)) rfl rfl (fun K hK => ?_) AllReadyH.nil)
      · go_simp
        go_at_call 13
        refine (RL.take hN1 HT1.out rfl HFL.out hoN).mono ?_
        rintro e wT ⟨A1, c1, A2, c2, rfl, hT1, hgT, hrT⟩
        go_wp2_with fail
        refine hK.out _ _ hT1.ends (fun hS2 => ?_)
        clear hK K
        try simp only [Act.put, List.setIfInBounds_toArray, List.set_cons_zero, List.set_cons_succ]
        refine wpAnyH_takeD (i := 10) (d := (some 60)) (v := (.tuple #[.agg #[.int .u8 3, .int .u8 5, .int .u8 0, .int .u8 0, .int .u8 0, .slice A1 0 c1], .slice A2 0 c2, .bool true])) rfl rfl (by kernel_rfl) (by kernel_rfl) (by kernel_rfl) (fun _ _ _ h => h) (Or.inl ⟨by rfl, fun w hw => by go_simp⟩) hS2 ?_
        try simp only [Act.put, List.setIfInBounds_toArray, List.set_cons_zero, List.set_cons_succ]
        refine wpAnyH_takeD (i := 11) (d := (some 71)) (v := (.agg #[.int .u8 3, .int .u8 5, .int .u8 0, .int .u8 0, .int .u8 0, .slice A1 0 c1])) rfl rfl (by kernel_rfl) (by kernel_rfl) (by kernel_rfl) (fun _ _ _ h => h) (Or.inl ⟨by rfl, fun w hw => by go_simp⟩) hS2 ?_
        try simp only [Act.put, List.setIfInBounds_toArray, List.set_cons_zero, List.set_cons_succ]
        refine wpAnyH_takeD (i := 12) (d := (some 72)) (v := (.slice A2 0 c2)) rfl rfl (by kernel_rfl) (by kernel_rfl) (by kernel_rfl) (fun _ _ _ h => h) (Or.inl ⟨by rfl, fun w hw => by go_simp⟩) hS2 ?_
        try simp only [Act.put, List.setIfInBounds_toArray, List.set_cons_zero, List.set_cons_succ]
        refine wpAnyH_takeD (i := 13) (d := (some 73)) (v := (.bool true)) rfl rfl (by kernel_rfl) (by kernel_rfl) (by kernel_rfl) (fun _ _ _ h => h) (Or.inl ⟨by rfl, fun w hw => by go_simp⟩) hS2 ?_
        try simp only [Act.put, List.setIfInBounds_toArray, List.set_cons_zero, List.set_cons_succ]
        refine wpAnyH_ready (rs := [14]) (by kernel_rfl) (by simp) ?_
        refine AllReadyH.consD (d := (some 7)) rfl rfl (fun K hK => ?_) AllReadyH.nil
        have hba : Below wT.heap.size wT (wT.alloc (.cells #[.int .u8 0, .int .u8 0, .int .u8 0, .int .u8 0, .int .u8 0, .slice none 0 0] 29)) := (Below.refl _ _).alloc (Nat.le_refl _) _
        go_simp
        refine hK.out _ _ (hT1.below hba).ends (fun hS3 => ?_)
        clear hK K
        try simp only [Act.put, List.setIfInBounds_toArray, List.set_cons_zero, List.set_cons_succ]
        refine wpAnyH_ready (rs := [15]) (by kernel_rfl) (by simp) ?_
        refine AllReadyH.consD (d := none) rfl rfl (fun K hK => ?_) AllReadyH.nil
        refine step_store6 rfl (.tmp 7) (.tmp 71) 29 rfl i0 hi0 hz1 wT.heap.size #[.int .u8 0, .int .u8 0, .int .u8 0, .int .u8 0, .int .u8 0, .slice none 0 0] (blk_new _ _) rfl (.int .u8 3) (.int .u8 5) (.int .u8 0) (.int .u8 0) (.int .u8 0) (.slice A1 0 c1) rfl rfl (by simp [Value.oneCell']) ?_
        intro wE hbE hgE
        have hE := RL.box (hT1.below hba) (blk_new _ _) hgE (by have := hT1.m.ge; have := hT1.m.lt; omega)
        refine hK.out _ _ hE.ends (fun hS4 => ?_)
        clear hK K
        try simp only [Act.put, List.setIfInBounds_toArray, List.set_cons_zero, List.set_cons_succ]
        refine wpAnyH_takeD (i := 16) (d := (some 8)) (v := (.slice A2 0 c2)) rfl rfl (by kernel_rfl) (by kernel_rfl) (by kernel_rfl) (fun _ _ _ h => h) (Or.inl ⟨by rfl, fun w hw => by go_simp⟩) hS4 ?_
        try simp only [Act.put, List.setIfInBounds_toArray, List.set_cons_zero, List.set_cons_succ]
        refine wpAnyH_takeD (i := 17) (d := (some 9)) (v := (.bool true)) rfl rfl (by kernel_rfl) (by kernel_rfl) (by kernel_rfl) (fun _ _ _ h => h) (Or.inl ⟨by rfl, fun w hw => by go_simp⟩) hS4 ?_
        try simp only [Act.put, List.setIfInBounds_toArray, List.set_cons_zero, List.set_cons_succ]
        refine wpAnyH_done (by kernel_rfl) ?_ _
        go_wp2_with fail
        go_meet
        case rel => exact ⟨rfl, wT.heap.size, A1, c1, A2, c2, rfl, rfl, hE, hbE, reads_nil hrT⟩
      · have hba : Below wN.heap.size wN (wN.alloc (.cells #[.int .u8 0, .int .u8 0, .int .u8 0, .int .u8 0, .int .u8 0, .slice none 0 0] 29)) := (Below.refl _ _).alloc (Nat.le_refl _) _
        go_simp
        refine hK.out _ _ (hN1.below hba).ends (fun hS3 => ?_)
        clear hK K
        try simp only [Act.put, List.setIfInBounds_toArray, List.set_cons_zero, List.set_cons_succ]
        refine wpAnyH_ready (rs := [9]) (by kernel_rfl) (by simp) ?_
        refine AllReadyH.consD (d := (some 70)) rfl rfl (fun K hK => ?_) AllReadyH.nil
        go_simp
        go_at_call 13
        refine (RL.take (hN1.below hba) HT1.out rfl HFL.out (own_below hoN hba)).mono ?_
        rintro e wT ⟨A1, c1, A2, c2, rfl, hT1, hgT, hrT⟩
        go_wp2_with fail
        refine hK.out _ _ hT1.ends (fun hS2 => ?_)
        clear hK K
        try simp only [Act.put, List.setIfInBounds_toArray, List.set_cons_zero, List.set_cons_succ]
        refine wpAnyH_takeD (i := 10) (d := (some 60)) (v := (.tuple #[.agg #[.int .u8 3, .int .u8 5, .int .u8 0, .int .u8 0, .int .u8 0, .slice A1 0 c1], .slice A2 0 c2, .bool true])) rfl rfl (by kernel_rfl) (by kernel_rfl) (by kernel_rfl) (fun _ _ _ h => h) (Or.inl ⟨by rfl, fun w hw => by go_simp⟩) hS2 ?_
        try simp only [Act.put, List.setIfInBounds_toArray, List.set_cons_zero, List.set_cons_succ]
        refine wpAnyH_takeD (i := 11) (d := (some 71)) (v := (.agg #[.int .u8 3, .int .u8 5, .int .u8 0, .int .u8 0, .int .u8 0, .slice A1 0 c1])) rfl rfl (by kernel_rfl) (by kernel_rfl) (by kernel_rfl) (fun _ _ _ h => h) (Or.inl ⟨by rfl, fun w hw => by go_simp⟩) hS2 ?_
        try simp only [Act.put, List.setIfInBounds_toArray, List.set_cons_zero, List.set_cons_succ]
        refine wpAnyH_takeD (i := 12) (d := (some 72)) (v := (.slice A2 0 c2)) rfl rfl (by kernel_rfl) (by kernel_rfl) (by kernel_rfl) (fun _ _ _ h => h) (Or.inl ⟨by rfl, fun w hw => by go_simp⟩) hS2 ?_
        try simp only [Act.put, List.setIfInBounds_toArray, List.set_cons_zero, List.set_cons_succ]
        refine wpAnyH_takeD (i := 13) (d := (some 73)) (v := (.bool true)) rfl rfl (by kernel_rfl) (by kernel_rfl) (by kernel_rfl) (fun _ _ _ h => h) (Or.inl ⟨by rfl, fun w hw => by go_simp⟩) hS2 ?_
        try simp only [Act.put, List.setIfInBounds_toArray, List.set_cons_zero, List.set_cons_succ]
        have hz := blk_grown (blk_new wN (.cells #[.int .u8 0, .int .u8 0, .int .u8 0, .int .u8 0, .int .u8 0, .slice none 0 0] 29)) hgT (fun e => by have := hN1.s.lt; cases e; omega)
        refine wpAnyH_ready (rs := [15]) (by kernel_rfl) (by simp) ?_
        refine AllReadyH.consD (d := none) rfl rfl (fun K hK => ?_) AllReadyH.nil
        refine step_store6 rfl (.tmp 7) (.tmp 71) 29 rfl i0 hi0 hz1 wN.heap.size #[.int .u8 0, .int .u8 0, .int .u8 0, .int .u8 0, .int .u8 0, .slice none 0 0] hz rfl (.int .u8 3) (.int .u8 5) (.int .u8 0) (.int .u8 0) (.int .u8 0) (.slice A1 0 c1) rfl rfl (by simp [Value.oneCell']) ?_
        intro wE hbE hgE
        have hE := RL.box hT1 hz hgE (by have := hN1.m.ge; have := hN1.m.lt; omega)
        refine hK.out _ _ hE.ends (fun hS4 => ?_)
        clear hK K
        try simp only [Act.put, List.setIfInBounds_toArray, List.set_cons_zero, List.set_cons_succ]
        refine wpAnyH_takeD (i := 16) (d := (some 8)) (v := (.slice A2 0 c2)) rfl rfl (by kernel_rfl) (by kernel_rfl) (by kernel_rfl) (fun _ _ _ h => h) (Or.inl ⟨by rfl, fun w hw => by go_simp⟩) hS4 ?_
        try simp only [Act.put, List.setIfInBounds_toArray, List.set_cons_zero, List.set_cons_succ]
        refine wpAnyH_takeD (i := 17) (d := (some 9)) (v := (.bool true)) rfl rfl (by kernel_rfl) (by kernel_rfl) (by kernel_rfl) (fun _ _ _ h => h) (Or.inl ⟨by rfl, fun w hw => by go_simp⟩) hS4 ?_
        try simp only [Act.put, List.setIfInBounds_toArray, List.set_cons_zero, List.set_cons_succ]
        refine wpAnyH_done (by kernel_rfl) ?_ _
        go_wp2_with fail
        go_meet
        case rel => exact ⟨rfl, wN.heap.size, A1, c1, A2, c2, rfl, rfl, hE, hbE, reads_nil hrT⟩
    · go_simp
      refine hK.out _ _ HRZ.out.ends (fun hS3 => ?_)
      clear hK K
      try simp only [Act.put, List.setIfInBounds_toArray, List.set_cons_zero, List.set_cons_succ]
      refine wpAnyH_ready (rs := [8]) (by kernel_rfl) (by simp) ?_
      refine AllReadyH.consD (d := (some 69)) rfl rfl (fun K hK => ?_) AllReadyH.nil
      go_simp
      go_at_call 26
      refine (RL.next HRZ.out HNX.out).mono ?_
      rintro e wN ⟨A0, c0, rfl, hN1, hbN, hoN⟩
      go_wp2_with fail
      refine hK.out _ _ hN1.ends (fun hS1 => ?_)
      clear hK K
      try simp only [Act.put, List.setIfInBounds_toArray, List.set_cons_zero, List.set_cons_succ]
      refine wpAnyH_ready (rs := [9]) (by kernel_rfl) (by simp) ?_
      refine AllReadyH.consD (d := (some 70)) rfl rfl (fun K hK => ?_) AllReadyH.nil
      go_simp
      go_at_call 13
      refine (RL.take hN1 HT1.out rfl HFL.out hoN).mono ?_
      rintro e wT ⟨A1, c1, A2, c2, rfl, hT1, hgT, hrT⟩
      go_wp2_with fail
      refine hK.out _ _ hT1.ends (fun hS2 => ?_)
      clear hK K
      try simp only [Act.put, List.setIfInBounds_toArray, List.set_cons_zero, List.set_cons_succ]
      refine wpAnyH_takeD (i := 10) (d := (some 60)) (v := (.tuple #[.agg #[.int .u8 3, .int .u8 5, .int .u8 0, .int .u8 0, .int .u8 0, .slice A1 0 c1], .slice A2 0 c2, .bool true])) rfl rfl (by kernel_rfl) (by kernel_rfl) (by kernel_rfl) (fun _ _ _ h => h) (Or.inl ⟨by rfl, fun w hw => by go_simp⟩) hS2 ?_
      try simp only [Act.put, List.setIfInBounds_toArray, List.set_cons_zero, List.set_cons_succ]
      refine wpAnyH_takeD (i := 11) (d := (some 71)) (v := (.agg #[.int .u8 3, .int .u8 5, .int .u8 0, .int .u8 0, .int .u8 0, .slice A1 0 c1])) rfl rfl (by kernel_rfl) (by kernel_rfl) (by kernel_rfl) (fun _ _ _ h => h) (Or.inl ⟨by rfl, fun w hw => by go_simp⟩) hS2 ?_
      try simp only [Act.put, List.setIfInBounds_toArray, List.set_cons_zero, List.set_cons_succ]
      refine wpAnyH_takeD (i := 12) (d := (some 72)) (v := (.slice A2 0 c2)) rfl rfl (by kernel_rfl) (by kernel_rfl) (by kernel_rfl) (fun _ _ _ h => h) (Or.inl ⟨by rfl, fun w hw => by go_simp⟩) hS2 ?_
      try simp only [Act.put, List.setIfInBounds_toArray, List.set_cons_zero, List.set_cons_succ]
      refine wpAnyH_takeD (i := 13) (d := (some 73)) (v := (.bool true)) rfl rfl (by kernel_rfl) (by kernel_rfl) (by kernel_rfl) (fun _ _ _ h => h) (Or.inl ⟨by rfl, fun w hw => by go_simp⟩) hS2 ?_
      try simp only [Act.put, List.setIfInBounds_toArray, List.set_cons_zero, List.set_cons_succ]
      have hz := blk_grown (blk_below' HZB.out hbN) hgT HNE.out
      refine wpAnyH_ready (rs := [15]) (by kernel_rfl) (by simp) ?_
      refine AllReadyH.consD (d := none) rfl rfl (fun K hK => ?_) AllReadyH.nil
      refine step_store6 rfl (.tmp 7) (.tmp 71) 29 rfl i0 hi0 hz1 wa.heap.size #[.int .u8 0, .int .u8 0, .int .u8 0, .int .u8 0, .int .u8 0, .slice none 0 0] hz rfl (.int .u8 3) (.int .u8 5) (.int .u8 0) (.int .u8 0) (.int .u8 0) (.slice A1 0 c1) rfl rfl (by simp [Value.oneCell']) ?_
      intro wE hbE hgE
      have hE := RL.box hT1 hz hgE HWB.out
      refine hK.out _ _ hE.ends (fun hS4 => ?_)
      clear hK K
      try simp only [Act.put, List.setIfInBounds_toArray, List.set_cons_zero, List.set_cons_succ]
      refine wpAnyH_takeD (i := 16) (d := (some 8)) (v := (.slice A2 0 c2)) rfl rfl (by kernel_rfl) (by kernel_rfl) (by kernel_rfl) (fun _ _ _ h => h) (Or.inl ⟨by rfl, fun w hw => by go_simp⟩) hS4 ?_
      try simp only [Act.put, List.setIfInBounds_toArray, List.set_cons_zero, List.set_cons_succ]
      refine wpAnyH_takeD (i := 17) (d := (some 9)) (v := (.bool true)) rfl rfl (by kernel_rfl) (by kernel_rfl) (by kernel_rfl) (fun _ _ _ h => h) (Or.inl ⟨by rfl, fun w hw => by go_simp⟩) hS4 ?_
      try simp only [Act.put, List.setIfInBounds_toArray, List.set_cons_zero, List.set_cons_succ]
      refine wpAnyH_done (by kernel_rfl) ?_ _
      go_wp2_with fail
      go_meet
      case rel => exact ⟨rfl, wa.heap.size, A1, c1, A2, c2, rfl, rfl, hE, hbE, reads_nil hrT⟩
  case rest =>
  obtain ⟨wb, rfl⟩ : ∃ z, z = wc := ⟨wc, rfl⟩
  obtain ⟨rfl, bx, A1, c1, A2, c2, rfl, rfl, hrb, hbb, hrn⟩ := hcut
  clear HR4 HRa HWB HBZ HRD HRZ HZB HNE
  have HRN := Lib.hid hrn
  have HRD := Lib.hid (hrb.below (drew_below _))
  have HBD := Lib.hid (blk_below' hbb (drew_below _))
  clear hrb hbb hrn
  go_upto_region 15 with fail
  go_cut [10, 11] (fun b o w' => o = .bool true ∧ RL w w' w1.heap.size x gm gs L1.M.shut (SS.new 3))
  case first =>
   as_aux_lemma =>
    refine wp_region_held_drew (S := fun w' => BoxS x gm bx ⟨3, 5, 0, 0, 0, []⟩ (.slice A1 0 c1) w') (by kernel_rfl) (boxS_of (r := ⟨3, 5, 0, 0, 0, []⟩) HRD.out HBD.out) (fun hS0 => ?_)
    refine wpAnyH_takeD (i := 0) (d := (some 75)) (v := (.pointer (some ⟨x, 0, none⟩))) rfl rfl (by kernel_rfl) (by kernel_rfl) (by kernel_rfl) (fun _ _ _ h => h) (Or.inl ⟨by rfl, fun w hw => by obtain ⟨h1, h2, h3, h4, h5, h6, h7⟩ := hw; go_simp⟩) hS0 ?_
    try simp only [Act.put, List.setIfInBounds_toArray, List.set_cons_zero, List.set_cons_succ]
    refine wpAnyH_takeD (i := 1) (d := (some 76)) (v := (.pointer (some ⟨x, 0, none⟩))) rfl rfl (by kernel_rfl) (by kernel_rfl) (by kernel_rfl) (fun _ _ _ h => h) (Or.inl ⟨by rfl, fun w hw => by obtain ⟨h1, h2, h3, h4, h5, h6, h7⟩ := hw; go_simp⟩) hS0 ?_
    try simp only [Act.put, List.setIfInBounds_toArray, List.set_cons_zero, List.set_cons_succ]
    refine wpAnyH_takeD (i := 2) (d := (some 77)) (v := (.pointer (some ⟨x, 0, none⟩))) rfl rfl (by kernel_rfl) (by kernel_rfl) (by kernel_rfl) (fun _ _ _ h => h) (Or.inl ⟨by rfl, fun w hw => by obtain ⟨h1, h2, h3, h4, h5, h6, h7⟩ := hw; go_simp⟩) hS0 ?_
    try simp only [Act.put, List.setIfInBounds_toArray, List.set_cons_zero, List.set_cons_succ]
    refine wpAnyH_takeD (i := 3) (d := (some 78)) (v := (.pointer (some ⟨gm, 0, none⟩))) rfl rfl (by kernel_rfl) (by kernel_rfl) (by kernel_rfl) (fun _ _ _ h => h) (Or.inl ⟨by rfl, fun w hw => by obtain ⟨h1, h2, h3, h4, h5, h6, h7⟩ := hw; go_simp⟩) hS0 ?_
    try simp only [Act.put, List.setIfInBounds_toArray, List.set_cons_zero, List.set_cons_succ]
    refine wpAnyH_takeD (i := 4) (d := (some 79)) (v := (.agg #[.int .u8 3, .int .u8 5, .int .u8 0, .int .u8 0, .int .u8 0, .slice A1 0 c1])) rfl rfl (by kernel_rfl) (by kernel_rfl) (by kernel_rfl) (fun _ _ _ h => h) (Or.inl ⟨by rfl, fun w hw => by obtain ⟨h1, h2, h3, h4, h5, h6, h7⟩ := hw; go_simp⟩) hS0 ?_
    try simp only [Act.put, List.setIfInBounds_toArray, List.set_cons_zero, List.set_cons_succ]
    refine wpAnyH_ready (rs := [5]) (by kernel_rfl) (by simp) ?_
    refine AllReadyH.consD (d := (some 80)) rfl rfl (fun K hK => ?_) AllReadyH.nil
    go_simp
    go_at_call 27
    refine (RL.heard (r := ⟨3, 5, 0, 0, 0, []⟩) HRD.out HH1.out rfl (reads_nil HRN.out) HE0.out HE1.out).mono ?_
    rintro e wH ⟨A2, c2, rfl, hH1, hkH⟩
    go_wp2_with fail
    refine hK.out _ _ (boxS_of (r := ⟨3, 5, 0, 0, 0, []⟩) hH1 (hkH.blk HBD.out (by decide))) (fun hS1 => ?_)
    clear hK K
    try simp only [Act.put, List.setIfInBounds_toArray, List.set_cons_zero, List.set_cons_succ]
    refine wpAnyH_takeD (i := 6) (d := (some 74)) (v := (.tuple #[.slice A2 0 c2, .bool true])) rfl rfl (by kernel_rfl) (by kernel_rfl) (by kernel_rfl) (fun _ _ _ h => h) (Or.inl ⟨by rfl, fun w hw => by go_simp⟩) hS1 ?_
    try simp only [Act.put, List.setIfInBounds_toArray, List.set_cons_zero, List.set_cons_succ]
    refine wpAnyH_takeD (i := 7) (d := (some 81)) (v := (.slice A2 0 c2)) rfl rfl (by kernel_rfl) (by kernel_rfl) (by kernel_rfl) (fun _ _ _ h => h) (Or.inl ⟨by rfl, fun w hw => by go_simp⟩) hS1 ?_
    try simp only [Act.put, List.setIfInBounds_toArray, List.set_cons_zero, List.set_cons_succ]
    refine wpAnyH_takeD (i := 8) (d := (some 82)) (v := (.bool true)) rfl rfl (by kernel_rfl) (by kernel_rfl) (by kernel_rfl) (fun _ _ _ h => h) (Or.inl ⟨by rfl, fun w hw => by go_simp⟩) hS1 ?_
    try simp only [Act.put, List.setIfInBounds_toArray, List.set_cons_zero, List.set_cons_succ]
    refine wpAnyH_takeD (i := 9) (d := (some 10)) (v := (.slice A2 0 c2)) rfl rfl (by kernel_rfl) (by kernel_rfl) (by kernel_rfl) (fun _ _ _ h => h) (Or.inl ⟨by rfl, fun w hw => by go_simp⟩) hS1 ?_
    try simp only [Act.put, List.setIfInBounds_toArray, List.set_cons_zero, List.set_cons_succ]
    refine wpAnyH_takeD (i := 10) (d := (some 11)) (v := (.bool true)) rfl rfl (by kernel_rfl) (by kernel_rfl) (by kernel_rfl) (fun _ _ _ h => h) (Or.inl ⟨by rfl, fun w hw => by go_simp⟩) hS1 ?_
    try simp only [Act.put, List.setIfInBounds_toArray, List.set_cons_zero, List.set_cons_succ]
    refine wpAnyH_done (by kernel_rfl) ?_ _
    go_wp2_with fail
    go_meet
    case rel => exact ⟨rfl, hH1⟩
  case rest =>
  obtain ⟨wd, rfl⟩ : ∃ z, z = wc := ⟨wc, rfl⟩
  obtain ⟨rfl, hrd⟩ := hcut
  clear HRN HRD HBD
  have HRd := Lib.hid hrd
  obtain ⟨k0, k1⟩ := hrd.ends
  clear hrd
  go_wp2_with fail
  refine (master_state _ w1.heap.size gm L1.M.shut HRd.out.m).mono ?_
  rintro e w9 ⟨rfl, rfl⟩
  have es : L1.M.shut.state = 0 := rfl
  rw [es]
  go_wp2_with fail
  refine (master_len _ w1.heap.size gm L1.M.shut HRd.out.m).mono ?_
  rintro e w9 ⟨rfl, rfl⟩
  have el : L1.M.shut.queue.length = 0 := rfl
  rw [el]
  clear es el
  go_upto_region 18 with fail
  obtain ⟨F, hF⟩ : ∃ F : FR, F = ⟨3, 1, 2, 0, 0, []⟩ := ⟨_, rfl⟩
  subst hF
  have HNX := HN2
  have HWB : Hid (w1.heap.size ≤ wd.heap.size) := by show w1.heap.size ≤ _; have h1 := HRd.out.m.ge; have h2 := HRd.out.m.lt; omega
  have HBZ : Hid (Below wd.heap.size wd ((wd.alloc (.cells #[.int .u8 0, .int .u8 0, .int .u8 0, .int .u8 0, .int .u8 0, .slice none 0 0] 29)).drew)) := ((Below.refl _ _).alloc (Nat.le_refl _) _).drew
  have HRD := Lib.hid (HRd.out.below (drew_below _))
  have HRZ := Lib.hid (HRd.out.below HBZ.out)
  have HZB : Hid (((wd.alloc (.cells #[.int .u8 0, .int .u8 0, .int .u8 0, .int .u8 0, .int .u8 0, .slice none 0 0] 29)).drew).heap[wd.heap.size]? = some (.cells #[.int .u8 0, .int .u8 0, .int .u8 0, .int .u8 0, .int .u8 0, .slice none 0 0] 29)) := blk_drew (blk_new _ _)
  have HNE : Hid (some wd.heap.size ≠ some gs) := fun e => by have := HRd.out.s.lt; cases e; omega
  go_cut [12, 13, 14] (fun p c o w' => o = .bool true ∧ TakenR w w1.heap.size x gm gs L1.M.shut ⟨3, 2, 0, 0, []⟩ ⟨3, 4, 2, 0, 0, []⟩ p c w')
  case first =>
   as_aux_lemma =>
    refine wp_region_held_drew (S := fun w' => Ends x gm gs w') (by kernel_rfl) (HRD.out.ends) (fun hS0 => ?_)
    refine wpAnyH_takeD (i := 0) (d := (some 111)) (v := (.pointer (some ⟨x, 0, none⟩))) rfl rfl (by kernel_rfl) (by kernel_rfl) (by kernel_rfl) (fun _ _ _ h => h) (Or.inl ⟨by rfl, fun w hw => by obtain ⟨h1, h2⟩ := hw; go_simp⟩) hS0 ?_
    try simp only [Act.put, List.setIfInBounds_toArray, List.set_cons_zero, List.set_cons_succ]
    refine wpAnyH_takeD (i := 1) (d := (some 112)) (v := (.pointer (some ⟨x, 0, none⟩))) rfl rfl (by kernel_rfl) (by kernel_rfl) (by kernel_rfl) (fun _ _ _ h => h) (Or.inl ⟨by rfl, fun w hw => by obtain ⟨h1, h2⟩ := hw; go_simp⟩) hS0 ?_
    try simp only [Act.put, List.setIfInBounds_toArray, List.set_cons_zero, List.set_cons_succ]
    refine wpAnyH_takeD (i := 2) (d := (some 113)) (v := (.pointer (some ⟨x, 1, none⟩))) rfl rfl (by kernel_rfl) (by kernel_rfl) (by kernel_rfl) (fun _ _ _ h => h) (Or.inl ⟨by rfl, fun w hw => by obtain ⟨h1, h2⟩ := hw; go_simp⟩) hS0 ?_
    try simp only [Act.put, List.setIfInBounds_toArray, List.set_cons_zero, List.set_cons_succ]
    refine wpAnyH_takeD (i := 3) (d := (some 114)) (v := (.pointer (some ⟨gs, 0, none⟩))) rfl rfl (by kernel_rfl) (by kernel_rfl) (by kernel_rfl) (fun _ _ _ h => h) (Or.inl ⟨by rfl, fun w hw => by obtain ⟨h1, h2⟩ := hw; go_simp⟩) hS0 ?_
    try simp only [Act.put, List.setIfInBounds_toArray, List.set_cons_zero, List.set_cons_succ]
    refine wpAnyH_takeD (i := 4) (d := (some 115)) (v := (.pointer (some ⟨x, 0, none⟩))) rfl rfl (by kernel_rfl) (by kernel_rfl) (by kernel_rfl) (fun _ _ _ h => h) (Or.inl ⟨by rfl, fun w hw => by obtain ⟨h1, h2⟩ := hw; go_simp⟩) hS0 ?_
    try simp only [Act.put, List.setIfInBounds_toArray, List.set_cons_zero, List.set_cons_succ]
    refine wpAnyH_takeD (i := 5) (d := (some 116)) (v := (.pointer (some ⟨x, 0, none⟩))) rfl rfl (by kernel_rfl) (by kernel_rfl) (by kernel_rfl) (fun _ _ _ h => h) (Or.inl ⟨by rfl, fun w hw => by obtain ⟨h1, h2⟩ := hw; go_simp⟩) hS0 ?_
    try simp only [Act.put, List.setIfInBounds_toArray, List.set_cons_zero, List.set_cons_succ]
    refine wpAnyH_takeD (i := 6) (d := (some 117)) (v := (.pointer (some ⟨x, 0, none⟩))) rfl rfl (by kernel_rfl) (by kernel_rfl) (by kernel_rfl) (fun _ _ _ h => h) (Or.inl ⟨by rfl, fun w hw => by obtain ⟨h1, h2⟩ := hw; go_simp⟩) hS0 ?_
    try simp only [Act.put, List.setIfInBounds_toArray, List.set_cons_zero, List.set_cons_succ]
    refine wpAnyH_takeD (i := 7) (d := (some 118)) (v := (.pointer (some ⟨gm, 0, none⟩))) rfl rfl (by kernel_rfl) (by kernel_rfl) (by kernel_rfl) (fun _ _ _ h => h) (Or.inl ⟨by rfl, fun w hw => by obtain ⟨h1, h2⟩ := hw; go_simp⟩) hS0 ?_
    try simp only [Act.put, List.setIfInBounds_toArray, List.set_cons_zero, List.set_cons_succ]
    refine wpAnyH_ready (rs := [8, 14]) (by kernel_rfl) (by simp) ?_
    refine AllReadyH.consD (d := (some 119)) rfl rfl (fun K hK => ?_) (AllReadyH.consD (d := (some 12)) rfl rfl (fun K hK => ?_) AllReadyH.nil)
    · go_simp
      go_at_call 26
      refine (RL.next HRD.out HN2.out).mono ?_
      rintro e wN ⟨A0, c0, rfl, hN1, hbN, hoN⟩
      go_wp2_with fail
      refine hK.out _ _ hN1.ends (fun hS1 => ?_)
      clear hK K
      try simp only [Act.put, List.setIfInBounds_toArray, List.set_cons_zero, List.set_cons_succ]
      refine wpAnyH_ready (rs := [9, 14]) (by kernel_rfl) (by simp) ?_
      refine AllReadyH.consD (d := (some 120)) rfl rfl (fun K hK => ?_) (AllReadyH.consD (d := (some 12)) rfl rfl (fun K hK => ?_) AllReadyH.nil)
      · go_simp
        go_at_call 13
        refine (RL.take hN1 shut_take rfl (by simp) hoN).mono ?_
        rintro e wT ⟨A1, c1, A2, c2, rfl, hT1, hgT, hrT⟩
        go_wp2_with fail
        refine hK.out _ _ hT1.ends (fun hS2 => ?_)
        clear hK K
        try simp only [Act.put, List.setIfInBounds_toArray, List.set_cons_zero, List.set_cons_succ]
        refine wpAnyH_takeD (i := 10) (d := (some 110)) (v := (.tuple #[.agg #[.int .u8 3, .int .u8 4, .int .u8 2, .int .u8 0, .int .u8 0, .slice A1 0 c1], .slice A2 0 c2, .bool true])) rfl rfl (by kernel_rfl) (by kernel_rfl) (by kernel_rfl) (fun _ _ _ h => h) (Or.inl ⟨by rfl, fun w hw => by go_simp⟩) hS2 ?_
        try simp only [Act.put, List.setIfInBounds_toArray, List.set_cons_zero, List.set_cons_succ]
        refine wpAnyH_takeD (i := 11) (d := (some 121)) (v := (.agg #[.int .u8 3, .int .u8 4, .int .u8 2, .int .u8 0, .int .u8 0, .slice A1 0 c1])) rfl rfl (by kernel_rfl) (by kernel_rfl) (by kernel_rfl) (fun _ _ _ h => h) (Or.inl ⟨by rfl, fun w hw => by go_simp⟩) hS2 ?_
        try simp only [Act.put, List.setIfInBounds_toArray, List.set_cons_zero, List.set_cons_succ]
        refine wpAnyH_takeD (i := 12) (d := (some 122)) (v := (.slice A2 0 c2)) rfl rfl (by kernel_rfl) (by kernel_rfl) (by kernel_rfl) (fun _ _ _ h => h) (Or.inl ⟨by rfl, fun w hw => by go_simp⟩) hS2 ?_
        try simp only [Act.put, List.setIfInBounds_toArray, List.set_cons_zero, List.set_cons_succ]
        refine wpAnyH_takeD (i := 13) (d := (some 123)) (v := (.bool true)) rfl rfl (by kernel_rfl) (by kernel_rfl) (by kernel_rfl) (fun _ _ _ h => h) (Or.inl ⟨by rfl, fun w hw => by go_simp⟩) hS2 ?_
        try simp only [Act.put, List.setIfInBounds_toArray, List.set_cons_zero, List.set_cons_succ]
        refine wpAnyH_ready (rs := [14]) (by kernel_rfl) (by simp) ?_
        refine AllReadyH.consD (d := (some 12)) rfl rfl (fun K hK => ?_) AllReadyH.nil
        have hba : Below wT.heap.size wT (wT.alloc (.cells #[.int .u8 0, .int .u8 0, .int .u8 0, .int .u8 0, .int .u8 0, .slice none 0 0] 29)) := (Below.refl _ _).alloc (Nat.le_refl _) _
        go_simp
        refine hK.out _ _ (hT1.below hba).ends (fun hS3 => ?_)
        clear hK K
        try simp only [Act.put, List.setIfInBounds_toArray, List.set_cons_zero, List.set_cons_succ]
        refine wpAnyH_ready (rs := [15]) (by kernel_rfl) (by simp) ?_
        refine AllReadyH.consD (d := none) rfl rfl (fun K hK => ?_) AllReadyH.nil
        refine step_store6 rfl (.tmp 12) (.tmp 121) 29 rfl i0 hi0 hz1 wT.heap.size #[.int .u8 0, .int .u8 0, .int .u8 0, .int .u8 0, .int .u8 0, .slice none 0 0] (blk_new _ _) rfl (.int .u8 3) (.int .u8 4) (.int .u8 2) (.int .u8 0) (.int .u8 0) (.slice A1 0 c1) rfl rfl (by simp [Value.oneCell']) ?_
        intro wE hbE hgE
        have hE := RL.box (hT1.below hba) (blk_new _ _) hgE (by have := hT1.m.ge; have := hT1.m.lt; omega)
        refine hK.out _ _ hE.ends (fun hS4 => ?_)
        clear hK K
        try simp only [Act.put, List.setIfInBounds_toArray, List.set_cons_zero, List.set_cons_succ]
        refine wpAnyH_takeD (i := 16) (d := (some 13)) (v := (.slice A2 0 c2)) rfl rfl (by kernel_rfl) (by kernel_rfl) (by kernel_rfl) (fun _ _ _ h => h) (Or.inl ⟨by rfl, fun w hw => by go_simp⟩) hS4 ?_
        try simp only [Act.put, List.setIfInBounds_toArray, List.set_cons_zero, List.set_cons_succ]
        refine wpAnyH_takeD (i := 17) (d := (some 14)) (v := (.bool true)) rfl rfl (by kernel_rfl) (by kernel_rfl) (by kernel_rfl) (fun _ _ _ h => h) (Or.inl ⟨by rfl, fun w hw => by go_simp⟩) hS4 ?_
        try simp only [Act.put, List.setIfInBounds_toArray, List.set_cons_zero, List.set_cons_succ]
        refine wpAnyH_done (by kernel_rfl) ?_ _
        go_wp2_with fail
        go_meet
        case rel => exact ⟨rfl, wT.heap.size, A1, c1, A2, c2, rfl, rfl, hE, hbE, reads_nil hrT⟩
      · have hba : Below wN.heap.size wN (wN.alloc (.cells #[.int .u8 0, .int .u8 0, .int .u8 0, .int .u8 0, .int .u8 0, .slice none 0 0] 29)) := (Below.refl _ _).alloc (Nat.le_refl _) _
        go_simp
        refine hK.out _ _ (hN1.below hba).ends (fun hS3 => ?_)
        clear hK K
        try simp only [Act.put, List.setIfInBounds_toArray, List.set_cons_zero, List.set_cons_succ]
        refine wpAnyH_ready (rs := [9]) (by kernel_rfl) (by simp) ?_
        refine AllReadyH.consD (d := (some 120)) rfl rfl (fun K hK => ?_) AllReadyH.nil
        go_simp
        go_at_call 13
        refine (RL.take (hN1.below hba) shut_take rfl (by simp) (own_below hoN hba)).mono ?_
        rintro e wT ⟨A1, c1, A2, c2, rfl, hT1, hgT, hrT⟩
        go_wp2_with fail
        refine hK.out _ _ hT1.ends (fun hS2 => ?_)
        clear hK K
        try simp only [Act.put, List.setIfInBounds_toArray, List.set_cons_zero, List.set_cons_succ]
        refine wpAnyH_takeD (i := 10) (d := (some 110)) (v := (.tuple #[.agg #[.int .u8 3, .int .u8 4, .int .u8 2, .int .u8 0, .int .u8 0, .slice A1 0 c1], .slice A2 0 c2, .bool true])) rfl rfl (by kernel_rfl) (by kernel_rfl) (by kernel_rfl) (fun _ _ _ h => h) (Or.inl ⟨by rfl, fun w hw => by go_simp⟩) hS2 ?_
        try simp only [Act.put, List.setIfInBounds_toArray, List.set_cons_zero, List.set_cons_succ]
        refine wpAnyH_takeD (i := 11) (d := (some 121)) (v := (.agg #[.int .u8 3, .int .u8 4, .int .u8 2, .int .u8 0, .int .u8 0, .slice A1 0 c1])) rfl rfl (by kernel_rfl) (by kernel_rfl) (by kernel_rfl) (fun _ _ _ h => h) (Or.inl ⟨by rfl, fun w hw => by go_simp⟩) hS2 ?_
        try simp only [Act.put, List.setIfInBounds_toArray, List.set_cons_zero, List.set_cons_succ]
        refine wpAnyH_takeD (i := 12) (d := (some 122)) (v := (.slice A2 0 c2)) rfl rfl (by kernel_rfl) (by kernel_rfl) (by kernel_rfl) (fun _ _ _ h => h) (Or.inl ⟨by rfl, fun w hw => by go_simp⟩) hS2 ?_
        try simp only [Act.put, List.setIfInBounds_toArray, List.set_cons_zero, List.set_cons_succ]
        refine wpAnyH_takeD (i := 13) (d := (some 123)) (v := (.bool true)) rfl rfl (by kernel_rfl) (by kernel_rfl) (by kernel_rfl) (fun _ _ _ h => h) (Or.inl ⟨by rfl, fun w hw => by go_simp⟩) hS2 ?_
        try simp only [Act.put, List.setIfInBounds_toArray, List.set_cons_zero, List.set_cons_succ]
        have hz := blk_grown (blk_new wN (.cells #[.int .u8 0, .int .u8 0, .int .u8 0, .int .u8 0, .int .u8 0, .slice none 0 0] 29)) hgT (fun e => by have := hN1.s.lt; cases e; omega)
        refine wpAnyH_ready (rs := [15]) (by kernel_rfl) (by simp) ?_
        refine AllReadyH.consD (d := none) rfl rfl (fun K hK => ?_) AllReadyH.nil
        refine step_store6 rfl (.tmp 12) (.tmp 121) 29 rfl i0 hi0 hz1 wN.heap.size #[.int .u8 0, .int .u8 0, .int .u8 0, .int .u8 0, .int .u8 0, .slice none 0 0] hz rfl (.int .u8 3) (.int .u8 4) (.int .u8 2) (.int .u8 0) (.int .u8 0) (.slice A1 0 c1) rfl rfl (by simp [Value.oneCell']) ?_
        intro wE hbE hgE
        have hE := RL.box hT1 hz hgE (by have := hN1.m.ge; have := hN1.m.lt; omega)
        refine hK.out _ _ hE.ends (fun hS4 => ?_)
        clear hK K
        try simp only [Act.put, List.setIfInBounds_toArray, List.set_cons_zero, List.set_cons_succ]
        refine wpAnyH_takeD (i := 16) (d := (some 13)) (v := (.slice A2 0 c2)) rfl rfl (by kernel_rfl) (by kernel_rfl) (by kernel_rfl) (fun _ _ _ h => h) (Or.inl ⟨by rfl, fun w hw => by go_simp⟩) hS4 ?_
        try simp only [Act.put, List.setIfInBounds_toArray, List.set_cons_zero, List.set_cons_succ]
        refine wpAnyH_takeD (i := 17) (d := (some 14)) (v := (.bool true)) rfl rfl (by kernel_rfl) (by kernel_rfl) (by kernel_rfl) (fun _ _ _ h => h) (Or.inl ⟨by rfl, fun w hw => by go_simp⟩) hS4 ?_
        try simp only [Act.put, List.setIfInBounds_toArray, List.set_cons_zero, List.set_cons_succ]
        refine wpAnyH_done (by kernel_rfl) ?_ _
        go_wp2_with fail
        go_meet
        case rel => exact ⟨rfl, wN.heap.size, A1, c1, A2, c2, rfl, rfl, hE, hbE, reads_nil hrT⟩
    · go_simp
      refine hK.out _ _ HRZ.out.ends (fun hS3 => ?_)
      clear hK K
      try simp only [Act.put, List.setIfInBounds_toArray, List.set_cons_zero, List.set_cons_succ]
      refine wpAnyH_ready (rs := [8]) (by kernel_rfl) (by simp) ?_
      refine AllReadyH.consD (d := (some 119)) rfl rfl (fun K hK => ?_) AllReadyH.nil
      go_simp
      go_at_call 26
      refine (RL.next HRZ.out HN2.out).mono ?_
      rintro e wN ⟨A0, c0, rfl, hN1, hbN, hoN⟩
      go_wp2_with fail
      refine hK.out _ _ hN1.ends (fun hS1 => ?_)
      clear hK K
      try simp only [Act.put, List.setIfInBounds_toArray, List.set_cons_zero, List.set_cons_succ]
      refine wpAnyH_ready (rs := [9]) (by kernel_rfl) (by simp) ?_
      refine AllReadyH.consD (d := (some 120)) rfl rfl (fun K hK => ?_) AllReadyH.nil
      go_simp
      go_at_call 13
      refine (RL.take hN1 shut_take rfl (by simp) hoN).mono ?_
      rintro e wT ⟨A1, c1, A2, c2, rfl, hT1, hgT, hrT⟩
      go_wp2_with fail
      refine hK.out _ _ hT1.ends (fun hS2 => ?_)
      clear hK K
      try simp only [Act.put, List.setIfInBounds_toArray, List.set_cons_zero, List.set_cons_succ]
      refine wpAnyH_takeD (i := 10) (d := (some 110)) (v := (.tuple #[.agg #[.int .u8 3, .int .u8 4, .int .u8 2, .int .u8 0, .int .u8 0, .slice A1 0 c1], .slice A2 0 c2, .bool true])) rfl rfl (by kernel_rfl) (by kernel_rfl) (by kernel_rfl) (fun _ _ _ h => h) (Or.inl ⟨by rfl, fun w hw => by go_simp⟩) hS2 ?_
      try simp only [Act.put, List.setIfInBounds_toArray, List.set_cons_zero, List.set_cons_succ]
      refine wpAnyH_takeD (i := 11) (d := (some 121)) (v := (.agg #[.int .u8 3, .int .u8 4, .int .u8 2, .int .u8 0, .int .u8 0, .slice A1 0 c1])) rfl rfl (by kernel_rfl) (by kernel_rfl) (by kernel_rfl) (fun _ _ _ h => h) (Or.inl ⟨by rfl, fun w hw => by go_simp⟩) hS2 ?_
      try simp only [Act.put, List.setIfInBounds_toArray, List.set_cons_zero, List.set_cons_succ]
      refine wpAnyH_takeD (i := 12) (d := (some 122)) (v := (.slice A2 0 c2)) rfl rfl (by kernel_rfl) (by kernel_rfl) (by kernel_rfl) (fun _ _ _ h => h) (Or.inl ⟨by rfl, fun w hw => by go_simp⟩) hS2 ?_
      try simp only [Act.put, List.setIfInBounds_toArray, List.set_cons_zero, List.set_cons_succ]
      refine wpAnyH_takeD (i := 13) (d := (some 123)) (v := (.bool true)) rfl rfl (by kernel_rfl) (by kernel_rfl) (by kernel_rfl) (fun _ _ _ h => h) (Or.inl ⟨by rfl, fun w hw => by go_simp⟩) hS2 ?_
      try simp only [Act.put, List.setIfInBounds_toArray, List.set_cons_zero, List.set_cons_succ]
      have hz := blk_grown (blk_below' HZB.out hbN) hgT HNE.out
      refine wpAnyH_ready (rs := [15]) (by kernel_rfl) (by simp) ?_
      refine AllReadyH.consD (d := none) rfl rfl (fun K hK => ?_) AllReadyH.nil
      refine step_store6 rfl (.tmp 12) (.tmp 121) 29 rfl i0 hi0 hz1 wd.heap.size #[.int .u8 0, .int .u8 0, .int .u8 0, .int .u8 0, .int .u8 0, .slice none 0 0] hz rfl (.int .u8 3) (.int .u8 4) (.int .u8 2) (.int .u8 0) (.int .u8 0) (.slice A1 0 c1) rfl rfl (by simp [Value.oneCell']) ?_
      intro wE hbE hgE
      have hE := RL.box hT1 hz hgE HWB.out
      refine hK.out _ _ hE.ends (fun hS4 => ?_)
      clear hK K
      try simp only [Act.put, List.setIfInBounds_toArray, List.set_cons_zero, List.set_cons_succ]
      refine wpAnyH_takeD (i := 16) (d := (some 13)) (v := (.slice A2 0 c2)) rfl rfl (by kernel_rfl) (by kernel_rfl) (by kernel_rfl) (fun _ _ _ h => h) (Or.inl ⟨by rfl, fun w hw => by go_simp⟩) hS4 ?_
      try simp only [Act.put, List.setIfInBounds_toArray, List.set_cons_zero, List.set_cons_succ]
      refine wpAnyH_takeD (i := 17) (d := (some 14)) (v := (.bool true)) rfl rfl (by kernel_rfl) (by kernel_rfl) (by kernel_rfl) (fun _ _ _ h => h) (Or.inl ⟨by rfl, fun w hw => by go_simp⟩) hS4 ?_
      try simp only [Act.put, List.setIfInBounds_toArray, List.set_cons_zero, List.set_cons_succ]
      refine wpAnyH_done (by kernel_rfl) ?_ _
      go_wp2_with fail
      go_meet
      case rel => exact ⟨rfl, wd.heap.size, A1, c1, A2, c2, rfl, rfl, hE, hbE, reads_nil hrT⟩
  case rest =>
  obtain ⟨we, rfl⟩ : ∃ z, z = wc := ⟨wc, rfl⟩
  obtain ⟨rfl, bx, A1, c1, A2, c2, rfl, rfl, hrb, hbb, hrn⟩ := hcut
  clear HRd HWB HBZ HRD HRZ HZB HNE
  have HRN := Lib.hid hrn
  have HRD := Lib.hid (hrb.below (drew_below _))
  have HBD := Lib.hid (blk_below' hbb (drew_below _))
  clear hrb hbb hrn
  go_upto_region 19 with fail
  go_cut [15, 16] (fun b o w' => o = .bool true ∧ RL w w' w1.heap.size x gm gs ({ L1.M.shut with misses := 0 } : MS).opens ⟨3, 2, 0, 0, []⟩)
  case first =>
   as_aux_lemma =>
    refine wp_region_held_drew (S := fun w' => BoxS x gm bx ⟨3, 4, 2, 0, 0, []⟩ (.slice A1 0 c1) w') (by kernel_rfl) (boxS_of (r := ⟨3, 4, 2, 0, 0, []⟩) HRD.out HBD.out) (fun hS0 => ?_)
    refine wpAnyH_takeD (i := 0) (d := (some 125)) (v := (.pointer (some ⟨x, 0, none⟩))) rfl rfl (by kernel_rfl) (by kernel_rfl) (by kernel_rfl) (fun _ _ _ h => h) (Or.inl ⟨by rfl, fun w hw => by obtain ⟨h1, h2, h3, h4, h5, h6, h7⟩ := hw; go_simp⟩) hS0 ?_
    try simp only [Act.put, List.setIfInBounds_toArray, List.set_cons_zero, List.set_cons_succ]
    refine wpAnyH_takeD (i := 1) (d := (some 126)) (v := (.pointer (some ⟨x, 0, none⟩))) rfl rfl (by kernel_rfl) (by kernel_rfl) (by kernel_rfl) (fun _ _ _ h => h) (Or.inl ⟨by rfl, fun w hw => by obtain ⟨h1, h2, h3, h4, h5, h6, h7⟩ := hw; go_simp⟩) hS0 ?_
    try simp only [Act.put, List.setIfInBounds_toArray, List.set_cons_zero, List.set_cons_succ]
    refine wpAnyH_takeD (i := 2) (d := (some 127)) (v := (.pointer (some ⟨x, 0, none⟩))) rfl rfl (by kernel_rfl) (by kernel_rfl) (by kernel_rfl) (fun _ _ _ h => h) (Or.inl ⟨by rfl, fun w hw => by obtain ⟨h1, h2, h3, h4, h5, h6, h7⟩ := hw; go_simp⟩) hS0 ?_
    try simp only [Act.put, List.setIfInBounds_toArray, List.set_cons_zero, List.set_cons_succ]
    refine wpAnyH_takeD (i := 3) (d := (some 128)) (v := (.pointer (some ⟨gm, 0, none⟩))) rfl rfl (by kernel_rfl) (by kernel_rfl) (by kernel_rfl) (fun _ _ _ h => h) (Or.inl ⟨by rfl, fun w hw => by obtain ⟨h1, h2, h3, h4, h5, h6, h7⟩ := hw; go_simp⟩) hS0 ?_
    try simp only [Act.put, List.setIfInBounds_toArray, List.set_cons_zero, List.set_cons_succ]
    refine wpAnyH_takeD (i := 4) (d := (some 129)) (v := (.agg #[.int .u8 3, .int .u8 4, .int .u8 2, .int .u8 0, .int .u8 0, .slice A1 0 c1])) rfl rfl (by kernel_rfl) (by kernel_rfl) (by kernel_rfl) (fun _ _ _ h => h) (Or.inl ⟨by rfl, fun w hw => by obtain ⟨h1, h2, h3, h4, h5, h6, h7⟩ := hw; go_simp⟩) hS0 ?_
    try simp only [Act.put, List.setIfInBounds_toArray, List.set_cons_zero, List.set_cons_succ]
    refine wpAnyH_ready (rs := [5]) (by kernel_rfl) (by simp) ?_
    refine AllReadyH.consD (d := (some 130)) rfl rfl (fun K hK => ?_) AllReadyH.nil
    go_simp
    go_at_call 27
    refine (RL.heard (r := ⟨3, 4, 2, 0, 0, []⟩) HRD.out HH2.out rfl (reads_nil HRN.out) HE0.out HE1.out).mono ?_
    rintro e wH ⟨A2, c2, rfl, hH1, hkH⟩
    go_wp2_with fail
    refine hK.out _ _ (boxS_of (r := ⟨3, 4, 2, 0, 0, []⟩) hH1 (hkH.blk HBD.out (by decide))) (fun hS1 => ?_)
    clear hK K
    try simp only [Act.put, List.setIfInBounds_toArray, List.set_cons_zero, List.set_cons_succ]
    refine wpAnyH_takeD (i := 6) (d := (some 124)) (v := (.tuple #[.slice A2 0 c2, .bool true])) rfl rfl (by kernel_rfl) (by kernel_rfl) (by kernel_rfl) (fun _ _ _ h => h) (Or.inl ⟨by rfl, fun w hw => by go_simp⟩) hS1 ?_
    try simp only [Act.put, List.setIfInBounds_toArray, List.set_cons_zero, List.set_cons_succ]
    refine wpAnyH_takeD (i := 7) (d := (some 131)) (v := (.slice A2 0 c2)) rfl rfl (by kernel_rfl) (by kernel_rfl) (by kernel_rfl) (fun _ _ _ h => h) (Or.inl ⟨by rfl, fun w hw => by go_simp⟩) hS1 ?_
    try simp only [Act.put, List.setIfInBounds_toArray, List.set_cons_zero, List.set_cons_succ]
    refine wpAnyH_takeD (i := 8) (d := (some 132)) (v := (.bool true)) rfl rfl (by kernel_rfl) (by kernel_rfl) (by kernel_rfl) (fun _ _ _ h => h) (Or.inl ⟨by rfl, fun w hw => by go_simp⟩) hS1 ?_
    try simp only [Act.put, List.setIfInBounds_toArray, List.set_cons_zero, List.set_cons_succ]
    refine wpAnyH_takeD (i := 9) (d := (some 15)) (v := (.slice A2 0 c2)) rfl rfl (by kernel_rfl) (by kernel_rfl) (by kernel_rfl) (fun _ _ _ h => h) (Or.inl ⟨by rfl, fun w hw => by go_simp⟩) hS1 ?_
    try simp only [Act.put, List.setIfInBounds_toArray, List.set_cons_zero, List.set_cons_succ]
    refine wpAnyH_takeD (i := 10) (d := (some 16)) (v := (.bool true)) rfl rfl (by kernel_rfl) (by kernel_rfl) (by kernel_rfl) (fun _ _ _ h => h) (Or.inl ⟨by rfl, fun w hw => by go_simp⟩) hS1 ?_
    try simp only [Act.put, List.setIfInBounds_toArray, List.set_cons_zero, List.set_cons_succ]
    refine wpAnyH_done (by kernel_rfl) ?_ _
    go_wp2_with fail
    go_meet
    case rel => exact ⟨rfl, hH1⟩
  case rest =>
  obtain ⟨wf, rfl⟩ : ∃ z, z = wc := ⟨wc, rfl⟩
  obtain ⟨rfl, hrf⟩ := hcut
  clear HRN HRD HBD
  have HRf := Lib.hid hrf
  obtain ⟨k0, k1⟩ := hrf.ends
  obtain ⟨vv, hv, _⟩ := hrf.s.ex
  have s0 := blk_cell hv 0
  have s1 := blk_cell hv 1
  have s2 := blk_cell hv 2
  simp at s0 s1 s2
  have hbe := Lib.hid hrf.be
  clear hrf hv
  have S1 : ∀ W, MasterAt W w1.heap.size gm ({ L1.M.shut with misses := 0 } : MS).opens → Calls Try.prog 23 #[.pointer (some ⟨gm, 0, none⟩)] W fun e w' => e = .returned (.int .i64 1) ∧ W = w' := fun W hW => master_state W w1.heap.size gm _ hW
  have S2 : ∀ W, MasterAt W w1.heap.size gm ({ L1.M.shut with misses := 0 } : MS).opens → Calls Try.prog 24 #[.pointer (some ⟨gm, 0, none⟩)] W fun e w' => e = .returned (.int .i64 2) ∧ W = w' := by
    intro W hW
    have h := master_epoch W w1.heap.size gm _ hW
    have e2 : (({ L1.M.shut with misses := 0 } : MS).opens).epoch = 2 := by show L1.M.epoch + 1 = 2; rw [HEP.out]; rfl
    rw [e2] at h
    exact h
  go_wp2_with fail
  refine (S1 _ HRf.out.m).mono ?_
  rintro e w9 ⟨rfl, rfl⟩
  go_wp2_with fail
  refine (S2 _ HRf.out.m).mono ?_
  rintro e w9 ⟨rfl, rfl⟩
  go_wp2_with fail
  refine (session_any _ 2 0 0).mono ?_
  rintro e w9 ⟨rfl, hb9⟩
  go_wp2_with fail
  go_ret
  exact ⟨rfl, hbe.out.trans (hb9.mono hbe.out.size)⟩
end Go.Proofs.Ytmhdckpmkgkglaa
