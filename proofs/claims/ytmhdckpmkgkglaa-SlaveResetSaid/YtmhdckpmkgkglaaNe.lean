/- The line: op 4, a frame is down and there is room up. -/
import Derived.Test.YtmhdckpmkgkglaaNp
import Derived.Test.YtmhdckpmkgkglaaLs
import Derived.BigQuiet
set_option linter.unusedVariables false
set_option linter.unusedSimpArgs false
namespace Go.Proofs.Ytmhdckpmkgkglaa
open Go.RowKit

set_option maxHeartbeats 4000000 in
set_option maxRecDepth 100000 in
theorem take_yes (w : World) (B x gm gs : Nat) (vd vu : Value) (f : FR) (u : Value) (ps us : List (FR × Value)) (L : LS) (A T : Nat) (k : Int) (hk : k = 4 ∨ k = 5 ∨ k = 6) (hl : LineIn w B x gm gs vd vu ((f, u) :: ps) us L) (hi : Inv L A T) (hs : L.sent ≤ 100000) (hu20 : us.length < 20) :
    Calls Try.prog 22 #[.pointer (some ⟨x, 0, none⟩), .agg #[.int .i64 k]] w (DoesEnd w B x gm gs true (L.takeF).2) := by
  obtain ⟨Au, cu, rfl⟩ := hl.u.row.slice
  obtain ⟨i0, hi0, hz0, hz1, hz2⟩ := info_parts Try.info29
  have hdown : L.down = f :: ps.map Prod.fst := by rw [← hl.de]; rfl
  obtain ⟨T', c', S', cmd, hF, hcmd, hinv⟩ := hi.takes hdown
  obtain ⟨r, hr⟩ : ∃ r : FR, r = ⟨3, 5, 1, (T' % 2 : Nat), (c' % 2 : Nat), S'.pend⟩ := ⟨_, rfl⟩
  rw [← hr] at hF
  have hnl := takeF_is hdown (by rw [← hl.ulen]; exact hu20) hF hcmd
  have HNL := Lib.hid hnl
  have hbl : cmd.length = 0 ∨ (cmd.length = 2 ∧ L.came < L.sent) := by rcases hcmd with ⟨rfl, _⟩ | ⟨rfl, _, hlt⟩; exact .inl rfl; exact .inr ⟨rfl, hlt⟩
  have HCMD := Lib.hid hcmd
  have HBL := Lib.hid hbl
  have hfb : f.b.length ≤ 24 := by
    have hrow := hi.dn
    rw [hdown] at hrow
    obtain ⟨d, e, _, _, hok, _⟩ := hrow
    rcases hok.2.2.2.2 with ⟨_, q⟩ | ⟨_, q, _⟩
    · rw [q]; simp
    · rw [q, two_len]; omega
  have hd20 : ps.length + 1 ≤ 20 := by have := hi.d20; rw [hdown] at this; simpa using this
  obtain ⟨fk, fo, cd, Af, cb, rfl, hfc1, hfc2, rfl, q0, q1, q2, q3, q4, q5⟩ := hl.d.head
  have hal : Below w.heap.size w (w.alloc (.cells #[.int .i64 k] 59)) := (Below.refl _ _).alloc (Nat.le_refl _) _
  have HAL := Lib.hid hal
  have HL := Lib.hid (hl.below hal)
  have x2 := blk_cell (hl.below hal).blk 2
  have x3 := blk_cell (hl.below hal).blk 3
  simp at x2 x3
  have hud : decide ((20 : Int) ≤ (us.length : Int)) = false := by simp; omega
  have hcr : ∀ W, SlaveAt W B gs L.S → ReadsB W (.slice Af f.b.length cb) f.b → NotIn gs (.slice Af f.b.length cb) f.b → Calls Try.prog 13 #[.pointer (some ⟨gs, 0, none⟩), .agg #[.int .u8 f.addr, .int .u8 f.kind, .int .u8 f.sess, .int .u8 f.seq, .int .u8 f.ack, .slice Af f.b.length cb]] W fun e w' =>
      ∃ A1 c1 A2 c2, e = .returned (.tuple #[.agg #[.int .u8 r.addr, .int .u8 r.kind, .int .u8 r.sess, .int .u8 r.seq, .int .u8 r.ack, .slice A1 r.b.length c1], .slice A2 cmd.length c2, .bool true]) ∧
        w'.ownsRow W.heap.size 5 1 (.slice A1 r.b.length c1) r.b.length (bytesV r.b) ∧ w'.ownsRow W.heap.size 5 1 (.slice A2 cmd.length c2) cmd.length (bytesV cmd) ∧ W.grownBy w' (some gs) ∧ SlaveAt w' B gs S' := by
    intro W hS hR hN
    refine (slave_take W B gs L.S S' f r cmd true Af f.b.length cb hS hR hN hF).mono fun e w' hh => ?_
    obtain ⟨v1, v2, rfl, ho1, ho2, hg, hs'⟩ := hh
    obtain ⟨A1, c1, rfl⟩ := own_slice ho1
    obtain ⟨A2, c2, rfl⟩ := own_slice ho2
    exact ⟨A1, c1, A2, c2, rfl, ho1, ho2, hg, hs'⟩
  have hxl := hl.lt
  have hge := hl.ge
  obtain ⟨vS, hgS, _⟩ := hl.s.ex
  have hni := hl.d.notIn hgS (by decide)
  have hcr' : ∀ W, SlaveAt W B gs L.S → ReadsB W (.slice Af f.b.length cb) f.b → _ := fun W h1 h2 => hcr W h1 h2 hni
  have HCR := Lib.hid hcr'
  have HRB := Lib.hid (HL.out.d.reads (by omega))
  clear hal hl hi hF hcmd hinv hcr hcr' hdown hnl hgS hr hni hbl q0 q1 q2 q3 q4 q5
  have ek0 : (k == 0) = false := by rcases hk with rfl | rfl | rfl <;> rfl
  have ek1 : (k == 1) = false := by rcases hk with rfl | rfl | rfl <;> rfl
  have ek2 : (k == 2) = false := by rcases hk with rfl | rfl | rfl <;> rfl
  have ek3 : (k == 3) = false := by rcases hk with rfl | rfl | rfl <;> rfl
  go_enter Try.func22, Try.ntmps22
  go_upto_if 77 with fail
  go_cut [77] (fun v w' => v = .bool true ∧ w' = w.alloc (.cells #[.int .i64 k] 59))
  case first =>
    rcases hk with rfl | rfl | rfl
    · go_wp2_with fail
      go_meet
      case rel => exact ⟨rfl, rfl⟩
    · go_wp2_with fail
      go_meet
      case rel => exact ⟨rfl, rfl⟩
    · go_wp2_with fail
      go_meet
      case rel => exact ⟨rfl, rfl⟩
  case rest =>
  obtain ⟨rfl, rfl⟩ := hcut
  go_upto_region 17 with fail
  obtain ⟨W0, hW0⟩ : ∃ W0, W0 = w.alloc (.cells #[.int .i64 k] 59) := ⟨_, rfl⟩
  have hwl : w.heap.size ≤ W0.heap.size := by rw [hW0]; simp
  rw [← hW0] at HAL HL x2 x3 HRB ⊢
  clear hW0
  have HWB : Hid (B ≤ W0.heap.size) := by show B ≤ _; omega
  have hx0 : x < W0.heap.size := HL.out.lt
  have HBD : Hid (Below W0.heap.size W0 W0.drew) := drew_below _
  have HBZ : Hid (Below W0.heap.size W0 ((W0.alloc (.cells #[.int .u8 0, .int .u8 0, .int .u8 0, .int .u8 0, .int .u8 0, .slice none 0 0] 29)).drew)) := ((Below.refl _ _).alloc (Nat.le_refl _) _).drew
  have HLD := Lib.hid (HL.out.below HBD.out)
  have HLZ := Lib.hid (HL.out.below HBZ.out)
  have HRD := Lib.hid (HRB.out.below HBD.out)
  have HRZ := Lib.hid (HRB.out.below HBZ.out)
  have HZB : Hid (((W0.alloc (.cells #[.int .u8 0, .int .u8 0, .int .u8 0, .int .u8 0, .int .u8 0, .slice none 0 0] 29)).drew).heap[W0.heap.size]? = some (.cells #[.int .u8 0, .int .u8 0, .int .u8 0, .int .u8 0, .int .u8 0, .slice none 0 0] 29)) := blk_drew (blk_new _ _)
  have HNE : Hid (some W0.heap.size ≠ some gs) := fun e => by have := HL.out.s.lt; cases e; omega
  have hfk : fk < W0.heap.size := (show HeadsS x gs fk fo _ f _ W0 from heads_of rfl HL.out).fkl
  go_cut [5, 6, 7] (fun p c o w' => o = .bool true ∧ TookI W0 B x gm gs (.slice (some ⟨fk, fo, none⟩) (ps.length + 1) cd) (.slice Au us.length cu) ((f, .slice Af f.b.length cb) :: ps) us { L with S := S' } r cmd p c w')
  case first =>
   as_aux_lemma =>
    refine wp_region_held_drew (S := fun w' => HeadsS x gs fk fo (.slice (some ⟨fk, fo, none⟩) (ps.length + 1) cd) f (.slice Af f.b.length cb) w') (by kernel_rfl) (heads_of rfl HLD.out) (fun hS0 => ?_)
    refine wpAnyH_takeD (i := 0) (d := (some 96)) (v := (.pointer (some ⟨x, 0, none⟩))) rfl rfl (by kernel_rfl) (by kernel_rfl) (by kernel_rfl) (fun _ _ _ h => h) (Or.inl ⟨by rfl, fun w hw => by obtain ⟨h1, h2, h3, h4, h5, h6, h7, h8⟩ := hw; go_simp⟩) hS0 ?_
    try simp only [Act.put, List.setIfInBounds_toArray, List.set_cons_zero, List.set_cons_succ]
    refine wpAnyH_takeD (i := 1) (d := (some 97)) (v := (.pointer (some ⟨x, 0, none⟩))) rfl rfl (by kernel_rfl) (by kernel_rfl) (by kernel_rfl) (fun _ _ _ h => h) (Or.inl ⟨by rfl, fun w hw => by obtain ⟨h1, h2, h3, h4, h5, h6, h7, h8⟩ := hw; go_simp⟩) hS0 ?_
    try simp only [Act.put, List.setIfInBounds_toArray, List.set_cons_zero, List.set_cons_succ]
    refine wpAnyH_takeD (i := 2) (d := (some 98)) (v := (.pointer (some ⟨x, 1, none⟩))) rfl rfl (by kernel_rfl) (by kernel_rfl) (by kernel_rfl) (fun _ _ _ h => h) (Or.inl ⟨by rfl, fun w hw => by obtain ⟨h1, h2, h3, h4, h5, h6, h7, h8⟩ := hw; go_simp⟩) hS0 ?_
    try simp only [Act.put, List.setIfInBounds_toArray, List.set_cons_zero, List.set_cons_succ]
    refine wpAnyH_takeD (i := 3) (d := (some 99)) (v := (.pointer (some ⟨gs, 0, none⟩))) rfl rfl (by kernel_rfl) (by kernel_rfl) (by kernel_rfl) (fun _ _ _ h => h) (Or.inl ⟨by rfl, fun w hw => by obtain ⟨h1, h2, h3, h4, h5, h6, h7, h8⟩ := hw; go_simp⟩) hS0 ?_
    try simp only [Act.put, List.setIfInBounds_toArray, List.set_cons_zero, List.set_cons_succ]
    refine wpAnyH_takeD (i := 4) (d := (some 100)) (v := (.pointer (some ⟨x, 0, none⟩))) rfl rfl (by kernel_rfl) (by kernel_rfl) (by kernel_rfl) (fun _ _ _ h => h) (Or.inl ⟨by rfl, fun w hw => by obtain ⟨h1, h2, h3, h4, h5, h6, h7, h8⟩ := hw; go_simp⟩) hS0 ?_
    try simp only [Act.put, List.setIfInBounds_toArray, List.set_cons_zero, List.set_cons_succ]
    refine wpAnyH_takeD (i := 5) (d := (some 101)) (v := (.pointer (some ⟨x, 0, none⟩))) rfl rfl (by kernel_rfl) (by kernel_rfl) (by kernel_rfl) (fun _ _ _ h => h) (Or.inl ⟨by rfl, fun w hw => by obtain ⟨h1, h2, h3, h4, h5, h6, h7, h8⟩ := hw; go_simp⟩) hS0 ?_
    try simp only [Act.put, List.setIfInBounds_toArray, List.set_cons_zero, List.set_cons_succ]
    refine wpAnyH_takeD (i := 6) (d := (some 102)) (v := (.pointer (some ⟨x, 2, none⟩))) rfl rfl (by kernel_rfl) (by kernel_rfl) (by kernel_rfl) (fun _ _ _ h => h) (Or.inl ⟨by rfl, fun w hw => by obtain ⟨h1, h2, h3, h4, h5, h6, h7, h8⟩ := hw; go_simp⟩) hS0 ?_
    try simp only [Act.put, List.setIfInBounds_toArray, List.set_cons_zero, List.set_cons_succ]
    refine wpAnyH_takeD (i := 7) (d := (some 103)) (v := (.slice (some ⟨fk, fo, none⟩) (ps.length + 1) cd)) rfl rfl (by kernel_rfl) (by kernel_rfl) (by kernel_rfl) (fun _ _ _ h => h) (Or.inl ⟨by rfl, fun w hw => by obtain ⟨h1, h2, h3, h4, h5, h6, h7, h8⟩ := hw; go_simp⟩) hS0 ?_
    try simp only [Act.put, List.setIfInBounds_toArray, List.set_cons_zero, List.set_cons_succ]
    refine wpAnyH_takeD (i := 8) (d := (some 104)) (v := (.pointer (some ⟨fk, fo, none⟩))) rfl rfl (by kernel_rfl) (by kernel_rfl) (by kernel_rfl) (fun _ _ _ h => h) (Or.inl ⟨by rfl, fun w hw => by obtain ⟨h1, h2, h3, h4, h5, h6, h7, h8⟩ := hw; go_simp⟩) hS0 ?_
    try simp only [Act.put, List.setIfInBounds_toArray, List.set_cons_zero, List.set_cons_succ]
    refine wpAnyH_takeD (i := 9) (d := (some 105)) (v := (.agg #[.int .u8 f.addr, .int .u8 f.kind, .int .u8 f.sess, .int .u8 f.seq, .int .u8 f.ack, .slice Af f.b.length cb])) rfl rfl (by kernel_rfl) (by kernel_rfl) (by kernel_rfl) (fun _ _ _ h => h) (Or.inl ⟨by rfl, fun w hw => by obtain ⟨h1, h2, h3, h4, h5, h6, h7, h8⟩ := hw; go_simp⟩) hS0 ?_
    try simp only [Act.put, List.setIfInBounds_toArray, List.set_cons_zero, List.set_cons_succ]
    refine wpAnyH_ready (rs := [10, 15]) (by kernel_rfl) (by simp) ?_
    refine AllReadyH.consD (d := (some 106)) rfl rfl (fun K hK => ?_) (AllReadyH.consD (d := (some 5)) rfl rfl (fun K hK => ?_) AllReadyH.nil)
    · go_simp
      go_at_call 13
      refine (HCR.out _ HLD.out.s HRD.out).mono ?_
      rintro e w1 ⟨A1, c1, A2, c2, rfl, ho1, ho2, hg1, hs1⟩
      have hAB := LineIn.slave HLD.out hg1 hs1
      go_wp2_with fail
      refine hK.out _ _ (heads_of rfl hAB.2) (fun hS1 => ?_)
      clear hK K
      try simp only [Act.put, List.setIfInBounds_toArray, List.set_cons_zero, List.set_cons_succ]
      refine wpAnyH_takeD (i := 11) (d := (some 95)) (v := (.tuple #[.agg #[.int .u8 r.addr, .int .u8 r.kind, .int .u8 r.sess, .int .u8 r.seq, .int .u8 r.ack, .slice A1 r.b.length c1], .slice A2 cmd.length c2, .bool true])) rfl rfl (by kernel_rfl) (by kernel_rfl) (by kernel_rfl) (fun _ _ _ h => h) (Or.inl ⟨by rfl, fun w hw => by go_simp⟩) hS1 ?_
      try simp only [Act.put, List.setIfInBounds_toArray, List.set_cons_zero, List.set_cons_succ]
      refine wpAnyH_takeD (i := 12) (d := (some 107)) (v := (.agg #[.int .u8 r.addr, .int .u8 r.kind, .int .u8 r.sess, .int .u8 r.seq, .int .u8 r.ack, .slice A1 r.b.length c1])) rfl rfl (by kernel_rfl) (by kernel_rfl) (by kernel_rfl) (fun _ _ _ h => h) (Or.inl ⟨by rfl, fun w hw => by go_simp⟩) hS1 ?_
      try simp only [Act.put, List.setIfInBounds_toArray, List.set_cons_zero, List.set_cons_succ]
      refine wpAnyH_takeD (i := 13) (d := (some 108)) (v := (.slice A2 cmd.length c2)) rfl rfl (by kernel_rfl) (by kernel_rfl) (by kernel_rfl) (fun _ _ _ h => h) (Or.inl ⟨by rfl, fun w hw => by go_simp⟩) hS1 ?_
      try simp only [Act.put, List.setIfInBounds_toArray, List.set_cons_zero, List.set_cons_succ]
      refine wpAnyH_takeD (i := 14) (d := (some 109)) (v := (.bool true)) rfl rfl (by kernel_rfl) (by kernel_rfl) (by kernel_rfl) (fun _ _ _ h => h) (Or.inl ⟨by rfl, fun w hw => by go_simp⟩) hS1 ?_
      try simp only [Act.put, List.setIfInBounds_toArray, List.set_cons_zero, List.set_cons_succ]
      refine wpAnyH_ready (rs := [15]) (by kernel_rfl) (by simp) ?_
      refine AllReadyH.consD (d := (some 5)) rfl rfl (fun K hK => ?_) AllReadyH.nil
      go_simp
      refine hK.out _ _ (hS1.below ((Below.refl _ _).alloc (Nat.le_refl _) _)) (fun hS2 => ?_)
      clear hK K
      try simp only [Act.put, List.setIfInBounds_toArray, List.set_cons_zero, List.set_cons_succ]
      have hba : Below w1.heap.size w1 (w1.alloc (.cells #[.int .u8 0, .int .u8 0, .int .u8 0, .int .u8 0, .int .u8 0, .slice none 0 0] 29)) := (Below.refl _ _).alloc (Nat.le_refl _) _
      refine wpAnyH_ready (rs := [16]) (by kernel_rfl) (by simp) ?_
      refine AllReadyH.consD (d := none) rfl rfl (fun K hK => ?_) AllReadyH.nil
      refine step_store6 rfl (.tmp 5) (.tmp 107) 29 rfl i0 hi0 hz1 w1.heap.size #[.int .u8 0, .int .u8 0, .int .u8 0, .int .u8 0, .int .u8 0, .slice none 0 0] (blk_new _ _) rfl (.int .u8 r.addr) (.int .u8 r.kind) (.int .u8 r.sess) (.int .u8 r.seq) (.int .u8 r.ack) (.slice A1 r.b.length c1) rfl rfl (by simp [Value.oneCell']) ?_
      intro w2 hb2 hg2
      refine hK.out _ _ (hS2.grown hg2 (by have := hAB.2.lt; omega) (by have := hS1.fkl; omega)) (fun hS3 => ?_)
      clear hK K
      try simp only [Act.put, List.setIfInBounds_toArray, List.set_cons_zero, List.set_cons_succ]
      refine wpAnyH_takeD (i := 17) (d := (some 6)) (v := (.slice A2 cmd.length c2)) rfl rfl (by kernel_rfl) (by kernel_rfl) (by kernel_rfl) (fun _ _ _ h => h) (Or.inl ⟨by rfl, fun w hw => by go_simp⟩) hS3 ?_
      try simp only [Act.put, List.setIfInBounds_toArray, List.set_cons_zero, List.set_cons_succ]
      refine wpAnyH_takeD (i := 18) (d := (some 7)) (v := (.bool true)) rfl rfl (by kernel_rfl) (by kernel_rfl) (by kernel_rfl) (fun _ _ _ h => h) (Or.inl ⟨by rfl, fun w hw => by go_simp⟩) hS3 ?_
      try simp only [Act.put, List.setIfInBounds_toArray, List.set_cons_zero, List.set_cons_succ]
      refine wpAnyH_done (by kernel_rfl) ?_ _
      go_wp2_with fail
      go_meet
      case rel => exact ⟨rfl, took_end HWB.out (((Kept.of_below HBD.out).trans (hAB.1.mono (ts' := [77, 22, 43, 63, 29]) (by simp))).trans (Kept.of_below hba)) (hAB.2.below hba) (blk_new _ _) hg2 hb2 (by have := hg1.size; have := HBD.out.size; omega) (fun k hk e => by have := hAB.2.d.lt k hk; omega) (fun k hk e => by have := hAB.2.u.lt k hk; omega) (own_lower (own_below ho1 hba) HBD.out.size) (own_lower (own_below ho2 hba) HBD.out.size)⟩
    · go_simp
      refine hK.out _ _ (heads_of rfl HLZ.out) (fun hS1 => ?_)
      clear hK K hS1
      try simp only [Act.put, List.setIfInBounds_toArray, List.set_cons_zero, List.set_cons_succ]
      refine wpAnyH_ready (rs := [10]) (by kernel_rfl) (by simp) ?_
      refine AllReadyH.consD (d := (some 106)) rfl rfl (fun K hK => ?_) AllReadyH.nil
      go_simp
      go_at_call 13
      refine (HCR.out _ HLZ.out.s HRZ.out).mono ?_
      rintro e w1 ⟨A1, c1, A2, c2, rfl, ho1, ho2, hg1, hs1⟩
      have hAB := LineIn.slave HLZ.out hg1 hs1
      go_wp2_with fail
      refine hK.out _ _ (heads_of rfl hAB.2) (fun hS1 => ?_)
      clear hK K
      try simp only [Act.put, List.setIfInBounds_toArray, List.set_cons_zero, List.set_cons_succ]
      refine wpAnyH_takeD (i := 11) (d := (some 95)) (v := (.tuple #[.agg #[.int .u8 r.addr, .int .u8 r.kind, .int .u8 r.sess, .int .u8 r.seq, .int .u8 r.ack, .slice A1 r.b.length c1], .slice A2 cmd.length c2, .bool true])) rfl rfl (by kernel_rfl) (by kernel_rfl) (by kernel_rfl) (fun _ _ _ h => h) (Or.inl ⟨by rfl, fun w hw => by go_simp⟩) hS1 ?_
      try simp only [Act.put, List.setIfInBounds_toArray, List.set_cons_zero, List.set_cons_succ]
      refine wpAnyH_takeD (i := 12) (d := (some 107)) (v := (.agg #[.int .u8 r.addr, .int .u8 r.kind, .int .u8 r.sess, .int .u8 r.seq, .int .u8 r.ack, .slice A1 r.b.length c1])) rfl rfl (by kernel_rfl) (by kernel_rfl) (by kernel_rfl) (fun _ _ _ h => h) (Or.inl ⟨by rfl, fun w hw => by go_simp⟩) hS1 ?_
      try simp only [Act.put, List.setIfInBounds_toArray, List.set_cons_zero, List.set_cons_succ]
      refine wpAnyH_takeD (i := 13) (d := (some 108)) (v := (.slice A2 cmd.length c2)) rfl rfl (by kernel_rfl) (by kernel_rfl) (by kernel_rfl) (fun _ _ _ h => h) (Or.inl ⟨by rfl, fun w hw => by go_simp⟩) hS1 ?_
      try simp only [Act.put, List.setIfInBounds_toArray, List.set_cons_zero, List.set_cons_succ]
      refine wpAnyH_takeD (i := 14) (d := (some 109)) (v := (.bool true)) rfl rfl (by kernel_rfl) (by kernel_rfl) (by kernel_rfl) (fun _ _ _ h => h) (Or.inl ⟨by rfl, fun w hw => by go_simp⟩) hS1 ?_
      try simp only [Act.put, List.setIfInBounds_toArray, List.set_cons_zero, List.set_cons_succ]
      have hz := blk_grown HZB.out hg1 HNE.out
      refine wpAnyH_ready (rs := [16]) (by kernel_rfl) (by simp) ?_
      refine AllReadyH.consD (d := none) rfl rfl (fun K hK => ?_) AllReadyH.nil
      refine step_store6 rfl (.tmp 5) (.tmp 107) 29 rfl i0 hi0 hz1 W0.heap.size #[.int .u8 0, .int .u8 0, .int .u8 0, .int .u8 0, .int .u8 0, .slice none 0 0] hz rfl (.int .u8 r.addr) (.int .u8 r.kind) (.int .u8 r.sess) (.int .u8 r.seq) (.int .u8 r.ack) (.slice A1 r.b.length c1) rfl rfl (by simp [Value.oneCell']) ?_
      intro w2 hb2 hg2
      refine hK.out _ _ (hS1.grown hg2 (by omega) (by omega)) (fun hS3 => ?_)
      clear hK K
      try simp only [Act.put, List.setIfInBounds_toArray, List.set_cons_zero, List.set_cons_succ]
      refine wpAnyH_takeD (i := 17) (d := (some 6)) (v := (.slice A2 cmd.length c2)) rfl rfl (by kernel_rfl) (by kernel_rfl) (by kernel_rfl) (fun _ _ _ h => h) (Or.inl ⟨by rfl, fun w hw => by go_simp⟩) hS3 ?_
      try simp only [Act.put, List.setIfInBounds_toArray, List.set_cons_zero, List.set_cons_succ]
      refine wpAnyH_takeD (i := 18) (d := (some 7)) (v := (.bool true)) rfl rfl (by kernel_rfl) (by kernel_rfl) (by kernel_rfl) (fun _ _ _ h => h) (Or.inl ⟨by rfl, fun w hw => by go_simp⟩) hS3 ?_
      try simp only [Act.put, List.setIfInBounds_toArray, List.set_cons_zero, List.set_cons_succ]
      refine wpAnyH_done (by kernel_rfl) ?_ _
      go_wp2_with fail
      go_meet
      case rel => exact ⟨rfl, took_end HWB.out ((Kept.of_below HBZ.out).trans (hAB.1.mono (ts' := [77, 22, 43, 63, 29]) (by simp))) hAB.2 hz hg2 hb2 (Nat.le_refl _) (fun k hk e => by have := HL.out.d.lt k hk; omega) (fun k hk e => by have := HL.out.u.lt k hk; omega) (own_lower ho1 HBZ.out.size) (own_lower ho2 HBZ.out.size)⟩
  case rest =>
  obtain ⟨w2, hw2⟩ : ∃ w2, w2 = wc := ⟨wc, rfl⟩
  subst hw2
  obtain ⟨rfl, hT⟩ := hcut
  obtain ⟨bx, A1, c1, A2, c2, rfl, rfl, hbx, hk2, hl2, hb2, ho1, ho2⟩ := hT
  obtain ⟨v', hrun, hwt, hob⟩ := hl2.d.tail
  obtain ⟨Av, cv, rfl⟩ := hwt.row.slice
  have y2 := blk_cell hl2.blk 2
  have f2 := blk_frozen hl2.blk 2
  simp at y2
  have he := hl2.tailD hwt hob
  have HK3 : Hid (Kept B [77, 22, 43, 63, 29] w (w2.setCell ⟨x, 2, none⟩ (.slice Av ps.length cv))) := ((Kept.of_below HAL.out).trans hk2).trans (he.1.mono (by simp))
  have HL3 := Lib.hid he.2
  have HB3 := Lib.hid (he.1.blk hb2 (by decide))
  have HO1 := Lib.hid (he.1.own (by decide) ho1)
  have HO2 := Lib.hid (he.1.own (by decide) ho2)
  clear hk2 hl2 hb2 ho1 ho2 hwt hob he HLD HLZ HRD HRZ HZB HNE HCR HRB HBD HBZ HL
  obtain ⟨w3, hw3⟩ : ∃ w3, w3 = w2.setCell ⟨x, 2, none⟩ (.slice Av ps.length cv) := ⟨_, rfl⟩
  rw [← hw3] at HK3 HL3 HB3 HO1 HO2
  have HTL : Hid (ps.map Prod.fst = L.down.tail) := HL3.out.de
  go_upto_region 21 with fail
  rw [← hw3]
  clear hw3 y2 f2 hrun x2 x3
  have y3 := blk_cell HL3.out.blk 3
  have y3a : ∀ o, (w3.alloc o).cell? ⟨x, 3, none⟩ = _ := fun o => blk_cell (blk_alloc HL3.out.blk o) 3
  simp at y3 y3a
  have b0 := blk_cell HB3.out 0
  have b1 := blk_cell HB3.out 1
  have b2 := blk_cell HB3.out 2
  have b3 := blk_cell HB3.out 3
  have b4 := blk_cell HB3.out 4
  have b5 := blk_cell HB3.out 5
  simp at b0 b1 b2 b3 b4 b5
  have hx3 : x < w3.heap.size := HL3.out.lt
  have hge3 : B ≤ w3.heap.size := by have := HL3.out.ge; omega
  go_cut [6] (fun c w' => ∃ B', c = .slice A2 cmd.length c2 ∧ Kept B [77, 22, 43, 63, 29] w w' ∧ LineAt w' B x gm gs { L with S := S', down := L.down.tail, up := L.up ++ [r] } ∧ w'.ownsRow B' 5 1 (.slice A2 cmd.length c2) cmd.length (bytesV cmd))
  case first =>
   as_aux_lemma =>
    have HBA : Hid (Below w3.heap.size w3 ((w3.alloc (.cells #[.int .u8 r.addr, .int .u8 r.kind, .int .u8 r.sess, .int .u8 r.seq, .int .u8 r.ack, .slice A1 r.b.length c1] 29)).drew)) := ((Below.refl _ _).alloc (Nat.le_refl _) _).drew
    refine wp_region_held_drew (S := fun _ => True) (by kernel_rfl) trivial (fun _ => ?_)
    refine wpAnyH_takeD (i := 0) (d := (some 120)) (v := (.pointer (some ⟨x, 0, none⟩))) rfl rfl (by kernel_rfl) (by kernel_rfl) (by kernel_rfl) (fun _ _ _ h => h) (Or.inl ⟨by rfl, fun w hw => by go_simp⟩) trivial ?_
    try simp only [Act.put, List.setIfInBounds_toArray, List.set_cons_zero, List.set_cons_succ]
    refine wpAnyH_takeD (i := 1) (d := (some 121)) (v := (.pointer (some ⟨x, 0, none⟩))) rfl rfl (by kernel_rfl) (by kernel_rfl) (by kernel_rfl) (fun _ _ _ h => h) (Or.inl ⟨by rfl, fun w hw => by go_simp⟩) trivial ?_
    try simp only [Act.put, List.setIfInBounds_toArray, List.set_cons_zero, List.set_cons_succ]
    refine wpAnyH_takeD (i := 2) (d := (some 122)) (v := (.pointer (some ⟨x, 0, none⟩))) rfl rfl (by kernel_rfl) (by kernel_rfl) (by kernel_rfl) (fun _ _ _ h => h) (Or.inl ⟨by rfl, fun w hw => by go_simp⟩) trivial ?_
    try simp only [Act.put, List.setIfInBounds_toArray, List.set_cons_zero, List.set_cons_succ]
    refine wpAnyH_takeD (i := 3) (d := (some 123)) (v := (.pointer (some ⟨x, 3, none⟩))) rfl rfl (by kernel_rfl) (by kernel_rfl) (by kernel_rfl) (fun _ _ _ h => h) (Or.inl ⟨by rfl, fun w hw => by go_simp⟩) trivial ?_
    try simp only [Act.put, List.setIfInBounds_toArray, List.set_cons_zero, List.set_cons_succ]
    refine wpAnyH_ready (rs := [4, 5]) (by kernel_rfl) (by simp) ?_
    refine AllReadyH.consD (d := (some 124)) rfl rfl (fun K hK => ?_) (AllReadyH.consD (d := (some 125)) rfl rfl (fun K hK => ?_) AllReadyH.nil)
    · go_simp
      refine hK.out _ _ trivial (fun _ => ?_)
      clear hK K
      try simp only [Act.put, List.setIfInBounds_toArray, List.set_cons_zero, List.set_cons_succ]
      refine wpAnyH_ready (rs := [5]) (by kernel_rfl) (by simp) ?_
      refine AllReadyH.consD (d := (some 125)) rfl rfl (fun K hK => ?_) AllReadyH.nil
      go_simp
      refine hK.out _ _ trivial (fun _ => ?_)
      clear hK K
      try simp only [Act.put, List.setIfInBounds_toArray, List.set_cons_zero, List.set_cons_succ]
      refine wpAnyH_ready (rs := [6]) (by kernel_rfl) (by simp) ?_
      refine AllReadyH.consD (d := (some 126)) rfl rfl (fun K hK => ?_) AllReadyH.nil
      refine step_build6 rfl (.tmp 125) rfl (.int .u8 r.addr) (.int .u8 r.kind) (.int .u8 r.sess) (.int .u8 r.seq) (.int .u8 r.ack) (.slice A1 r.b.length c1) rfl ((w3.alloc (.cells #[.int .u8 r.addr, .int .u8 r.kind, .int .u8 r.sess, .int .u8 r.seq, .int .u8 r.ack, .slice A1 r.b.length c1] 29)).drew) rfl ?_
      refine hK.out _ _ trivial (fun _ => ?_)
      clear hK K
      try simp only [Act.put, List.setIfInBounds_toArray, List.set_cons_zero, List.set_cons_succ]
      refine wpAnyH_ready (rs := [7]) (by kernel_rfl) (by simp) ?_
      refine AllReadyH.consD (d := (some 127)) rfl rfl (fun K hK => ?_) AllReadyH.nil
      refine step_append_off2 rfl (.tmp 124) (.tmp 126) 61 rfl B 29 i0 (.agg #[.int .u8 0, .int .u8 0, .int .u8 0, .int .u8 0, .int .u8 0, .slice none 0 0]) 6 32 Try.underlying61 hi0 hz0 hz1 hz2 rfl (by decide) (.slice Au us.length cu) us.length (cells6 us) rfl (HL3.out.u.row.below HBA.out) ⟨w3.heap.size, 0, none⟩ 1 1 [.int .u8 r.addr, .int .u8 r.kind, .int .u8 r.sess, .int .u8 r.seq, .int .u8 r.ack, .slice A1 r.b.length c1] rfl rfl (cells_six _ (blk_drew (blk_new _ _))) (by simp [Value.oneCell']) (by unfold maxLen; omega) (by omega) (Nat.le_trans hge3 (by simp)) (by decide) ?_
      intro v2 w4 ho4 hg4 hn4
      have hpp := HL3.out.pushU (f := r) (u := .slice A1 r.b.length c1) HBA.out (own_below HO1.out HBA.out) HWB.out hg4 ho4 hn4
      have hh3 := blk_grown (blk_below' HL3.out.blk HBA.out) hg4 (fun e => by have := HL3.out.u.row.ne HL3.out.blk (by decide) x e.symm; omega)
      have hfz := blk_frozen hh3 3
      have h3c := blk_cell hh3 3
      simp at h3c
      obtain ⟨A4, c4, rfl⟩ := ho4.slice
      have HPP := Lib.hid hpp
      clear ho4 hg4 hn4 hpp hh3
      refine hK.out _ _ trivial (fun _ => ?_)
      clear hK K
      try simp only [Act.put, List.setIfInBounds_toArray, List.set_cons_zero, List.set_cons_succ]
      refine wpAnyH_takeD (i := 8) (d := (some 128)) (v := (.pointer (some ⟨x, 0, none⟩))) rfl rfl (by kernel_rfl) (by kernel_rfl) (by kernel_rfl) (fun _ _ _ h => h) (Or.inl ⟨by rfl, fun w hw => by go_simp⟩) trivial ?_
      try simp only [Act.put, List.setIfInBounds_toArray, List.set_cons_zero, List.set_cons_succ]
      refine wpAnyH_takeD (i := 9) (d := (some 129)) (v := (.pointer (some ⟨x, 3, none⟩))) rfl rfl (by kernel_rfl) (by kernel_rfl) (by kernel_rfl) (fun _ _ _ h => h) (Or.inl ⟨by rfl, fun w hw => by go_simp⟩) trivial ?_
      try simp only [Act.put, List.setIfInBounds_toArray, List.set_cons_zero, List.set_cons_succ]
      refine wpAnyH_ready (rs := [10]) (by kernel_rfl) (by simp) ?_
      refine AllReadyH.consD (d := none) rfl rfl (fun K hK => ?_) AllReadyH.nil
      go_simp
      refine hK.out _ _ trivial (fun _ => ?_)
      clear hK K
      try simp only [Act.put, List.setIfInBounds_toArray, List.set_cons_zero, List.set_cons_succ]
      refine wpAnyH_done (by kernel_rfl) ?_ _
      go_wp2_with fail
      go_meet
      case rel => exact ⟨_, rfl, HK3.out.trans (HPP.out.1.mono (by simp)), ⟨_, _, _, _, HPP.out.2⟩, HPP.out.1.own (by decide) HO2.out⟩
    · go_simp
      refine hK.out _ _ trivial (fun _ => ?_)
      clear hK K
      try simp only [Act.put, List.setIfInBounds_toArray, List.set_cons_zero, List.set_cons_succ]
      refine wpAnyH_ready (rs := [4, 6]) (by kernel_rfl) (by simp) ?_
      refine AllReadyH.consD (d := (some 124)) rfl rfl (fun K hK => ?_) (AllReadyH.consD (d := (some 126)) rfl rfl (fun K hK => ?_) AllReadyH.nil)
      · go_simp
        refine hK.out _ _ trivial (fun _ => ?_)
        clear hK K
        try simp only [Act.put, List.setIfInBounds_toArray, List.set_cons_zero, List.set_cons_succ]
        refine wpAnyH_ready (rs := [6]) (by kernel_rfl) (by simp) ?_
        refine AllReadyH.consD (d := (some 126)) rfl rfl (fun K hK => ?_) AllReadyH.nil
        refine step_build6 rfl (.tmp 125) rfl (.int .u8 r.addr) (.int .u8 r.kind) (.int .u8 r.sess) (.int .u8 r.seq) (.int .u8 r.ack) (.slice A1 r.b.length c1) rfl ((w3.alloc (.cells #[.int .u8 r.addr, .int .u8 r.kind, .int .u8 r.sess, .int .u8 r.seq, .int .u8 r.ack, .slice A1 r.b.length c1] 29)).drew) rfl ?_
        refine hK.out _ _ trivial (fun _ => ?_)
        clear hK K
        try simp only [Act.put, List.setIfInBounds_toArray, List.set_cons_zero, List.set_cons_succ]
        refine wpAnyH_ready (rs := [7]) (by kernel_rfl) (by simp) ?_
        refine AllReadyH.consD (d := (some 127)) rfl rfl (fun K hK => ?_) AllReadyH.nil
        refine step_append_off2 rfl (.tmp 124) (.tmp 126) 61 rfl B 29 i0 (.agg #[.int .u8 0, .int .u8 0, .int .u8 0, .int .u8 0, .int .u8 0, .slice none 0 0]) 6 32 Try.underlying61 hi0 hz0 hz1 hz2 rfl (by decide) (.slice Au us.length cu) us.length (cells6 us) rfl (HL3.out.u.row.below HBA.out) ⟨w3.heap.size, 0, none⟩ 1 1 [.int .u8 r.addr, .int .u8 r.kind, .int .u8 r.sess, .int .u8 r.seq, .int .u8 r.ack, .slice A1 r.b.length c1] rfl rfl (cells_six _ (blk_drew (blk_new _ _))) (by simp [Value.oneCell']) (by unfold maxLen; omega) (by omega) (Nat.le_trans hge3 (by simp)) (by decide) ?_
        intro v2 w4 ho4 hg4 hn4
        have hpp := HL3.out.pushU (f := r) (u := .slice A1 r.b.length c1) HBA.out (own_below HO1.out HBA.out) HWB.out hg4 ho4 hn4
        have hh3 := blk_grown (blk_below' HL3.out.blk HBA.out) hg4 (fun e => by have := HL3.out.u.row.ne HL3.out.blk (by decide) x e.symm; omega)
        have hfz := blk_frozen hh3 3
        have h3c := blk_cell hh3 3
        simp at h3c
        obtain ⟨A4, c4, rfl⟩ := ho4.slice
        have HPP := Lib.hid hpp
        clear ho4 hg4 hn4 hpp hh3
        refine hK.out _ _ trivial (fun _ => ?_)
        clear hK K
        try simp only [Act.put, List.setIfInBounds_toArray, List.set_cons_zero, List.set_cons_succ]
        refine wpAnyH_takeD (i := 8) (d := (some 128)) (v := (.pointer (some ⟨x, 0, none⟩))) rfl rfl (by kernel_rfl) (by kernel_rfl) (by kernel_rfl) (fun _ _ _ h => h) (Or.inl ⟨by rfl, fun w hw => by go_simp⟩) trivial ?_
        try simp only [Act.put, List.setIfInBounds_toArray, List.set_cons_zero, List.set_cons_succ]
        refine wpAnyH_takeD (i := 9) (d := (some 129)) (v := (.pointer (some ⟨x, 3, none⟩))) rfl rfl (by kernel_rfl) (by kernel_rfl) (by kernel_rfl) (fun _ _ _ h => h) (Or.inl ⟨by rfl, fun w hw => by go_simp⟩) trivial ?_
        try simp only [Act.put, List.setIfInBounds_toArray, List.set_cons_zero, List.set_cons_succ]
        refine wpAnyH_ready (rs := [10]) (by kernel_rfl) (by simp) ?_
        refine AllReadyH.consD (d := none) rfl rfl (fun K hK => ?_) AllReadyH.nil
        go_simp
        refine hK.out _ _ trivial (fun _ => ?_)
        clear hK K
        try simp only [Act.put, List.setIfInBounds_toArray, List.set_cons_zero, List.set_cons_succ]
        refine wpAnyH_done (by kernel_rfl) ?_ _
        go_wp2_with fail
        go_meet
        case rel => exact ⟨_, rfl, HK3.out.trans (HPP.out.1.mono (by simp)), ⟨_, _, _, _, HPP.out.2⟩, HPP.out.1.own (by decide) HO2.out⟩
      · refine step_build6 rfl (.tmp 125) rfl (.int .u8 r.addr) (.int .u8 r.kind) (.int .u8 r.sess) (.int .u8 r.seq) (.int .u8 r.ack) (.slice A1 r.b.length c1) rfl ((w3.alloc (.cells #[.int .u8 r.addr, .int .u8 r.kind, .int .u8 r.sess, .int .u8 r.seq, .int .u8 r.ack, .slice A1 r.b.length c1] 29)).drew) rfl ?_
        refine hK.out _ _ trivial (fun _ => ?_)
        clear hK K
        try simp only [Act.put, List.setIfInBounds_toArray, List.set_cons_zero, List.set_cons_succ]
        refine wpAnyH_ready (rs := [4]) (by kernel_rfl) (by simp) ?_
        refine AllReadyH.consD (d := (some 124)) rfl rfl (fun K hK => ?_) AllReadyH.nil
        go_simp
        refine hK.out _ _ trivial (fun _ => ?_)
        clear hK K
        try simp only [Act.put, List.setIfInBounds_toArray, List.set_cons_zero, List.set_cons_succ]
        refine wpAnyH_ready (rs := [7]) (by kernel_rfl) (by simp) ?_
        refine AllReadyH.consD (d := (some 127)) rfl rfl (fun K hK => ?_) AllReadyH.nil
        refine step_append_off2 rfl (.tmp 124) (.tmp 126) 61 rfl B 29 i0 (.agg #[.int .u8 0, .int .u8 0, .int .u8 0, .int .u8 0, .int .u8 0, .slice none 0 0]) 6 32 Try.underlying61 hi0 hz0 hz1 hz2 rfl (by decide) (.slice Au us.length cu) us.length (cells6 us) rfl (HL3.out.u.row.below HBA.out) ⟨w3.heap.size, 0, none⟩ 1 1 [.int .u8 r.addr, .int .u8 r.kind, .int .u8 r.sess, .int .u8 r.seq, .int .u8 r.ack, .slice A1 r.b.length c1] rfl rfl (cells_six _ (blk_drew (blk_new _ _))) (by simp [Value.oneCell']) (by unfold maxLen; omega) (by omega) (Nat.le_trans hge3 (by simp)) (by decide) ?_
        intro v2 w4 ho4 hg4 hn4
        have hpp := HL3.out.pushU (f := r) (u := .slice A1 r.b.length c1) HBA.out (own_below HO1.out HBA.out) HWB.out hg4 ho4 hn4
        have hh3 := blk_grown (blk_below' HL3.out.blk HBA.out) hg4 (fun e => by have := HL3.out.u.row.ne HL3.out.blk (by decide) x e.symm; omega)
        have hfz := blk_frozen hh3 3
        have h3c := blk_cell hh3 3
        simp at h3c
        obtain ⟨A4, c4, rfl⟩ := ho4.slice
        have HPP := Lib.hid hpp
        clear ho4 hg4 hn4 hpp hh3
        refine hK.out _ _ trivial (fun _ => ?_)
        clear hK K
        try simp only [Act.put, List.setIfInBounds_toArray, List.set_cons_zero, List.set_cons_succ]
        refine wpAnyH_takeD (i := 8) (d := (some 128)) (v := (.pointer (some ⟨x, 0, none⟩))) rfl rfl (by kernel_rfl) (by kernel_rfl) (by kernel_rfl) (fun _ _ _ h => h) (Or.inl ⟨by rfl, fun w hw => by go_simp⟩) trivial ?_
        try simp only [Act.put, List.setIfInBounds_toArray, List.set_cons_zero, List.set_cons_succ]
        refine wpAnyH_takeD (i := 9) (d := (some 129)) (v := (.pointer (some ⟨x, 3, none⟩))) rfl rfl (by kernel_rfl) (by kernel_rfl) (by kernel_rfl) (fun _ _ _ h => h) (Or.inl ⟨by rfl, fun w hw => by go_simp⟩) trivial ?_
        try simp only [Act.put, List.setIfInBounds_toArray, List.set_cons_zero, List.set_cons_succ]
        refine wpAnyH_ready (rs := [10]) (by kernel_rfl) (by simp) ?_
        refine AllReadyH.consD (d := none) rfl rfl (fun K hK => ?_) AllReadyH.nil
        go_simp
        refine hK.out _ _ trivial (fun _ => ?_)
        clear hK K
        try simp only [Act.put, List.setIfInBounds_toArray, List.set_cons_zero, List.set_cons_succ]
        refine wpAnyH_done (by kernel_rfl) ?_ _
        go_wp2_with fail
        go_meet
        case rel => exact ⟨_, rfl, HK3.out.trans (HPP.out.1.mono (by simp)), ⟨_, _, _, _, HPP.out.2⟩, HPP.out.1.own (by decide) HO2.out⟩
  case rest =>
  obtain ⟨w5, hw5⟩ : ∃ w5, w5 = wc := ⟨wc, rfl⟩
  subst hw5
  obtain ⟨B5, rfl, hk5, hl5, ho5⟩ := hcut
  obtain ⟨vd5, vu5, ds5, us5, hl5⟩ := hl5
  obtain ⟨Ad5, cd5, rfl⟩ := hl5.d.row.slice
  obtain ⟨Au5, cu5, rfl⟩ := hl5.u.row.slice
  have HK5 := Lib.hid hk5
  have HL5 := Lib.hid hl5
  have HO5 := Lib.hid (own_reads ho5 (by have := HBL.out; omega))
  have e4 := blk_cell hl5.blk 4
  have e5 := blk_cell hl5.blk 5
  have g5 := blk_frozen hl5.blk 5
  simp at e4 e5
  clear hk5 hl5 ho5 HL3 HK3 HB3 HO1 HO2 y3 y3a b0 b1 b2 b3 b4 b5
  rcases HBL.out with hn0 | ⟨hn2, hlt⟩
  · rw [hn0]
    have h' : c' = L.came := by
      rcases HCMD.out with ⟨_, q⟩ | ⟨q, _⟩
      · exact q
      · rw [q, two_len] at hn0; omega
    go_wp2_with fail
    go_ret
    refine ⟨rfl, HK5.out, ?_⟩
    rw [HNL.out, h', HTL.out]
    exact ⟨_, _, _, _, HL5.out⟩
  · as_aux_lemma =>
    obtain ⟨q, hq⟩ : ∃ q, q = L.came % 256 := ⟨_, rfl⟩
    have hwr := wrap8 L.came
    rw [← hq] at hwr
    have hbt : cmd = two L.came 1 ∧ c' = L.came + 1 := by
      rcases HCMD.out with ⟨q, _⟩ | ⟨q, q2, _⟩
      · rw [q] at hn2; cases hn2
      · exact ⟨q, q2⟩
    have hcells : bytesV cmd = [.int .u8 (q : Int), .int .u8 1] := by rw [hbt.1, two_cells, hq]; rfl
    have hge : decide ((L.sent : Int) ≤ (L.came : Int)) = false := by simp; omega
    have hhb : L.came ≤ 100000 := by omega
    have hge2 : decide (L.sent ≤ L.came) = false := by simp; omega
    have hge3 : (decide ((L.came : Int) ≥ (L.sent : Int))) = false := by simp; omega
    have HCE := Lib.hid hcells
    have HBT := Lib.hid hbt
    have HN2 := Lib.hid hn2
    rw [hn2] at HO5 ⊢
    clear hcells hbt hq hn2 hlt
    go_upto_region 23 with fail
    have hwr3 := HL5.out.wrote (L' := (L.takeF).2) (w1 := w5.setCell ⟨x, 5, none⟩ (.int .i64 ((L.came : Int) + 1))) (grown_set (grown_refl _ _) _ _)
      (by have := blk_set HL5.out.blk 5 (.int .i64 ((L.came : Int) + 1)); rw [HNL.out, HBT.out.2]; simpa using this) (by rw [HNL.out]) (by rw [HNL.out]) (by rw [HNL.out]; exact HTL.out) (by rw [HNL.out])
    have hba : Below (w5.setCell ⟨x, 5, none⟩ (.int .i64 ((L.came : Int) + 1))).heap.size (w5.setCell ⟨x, 5, none⟩ (.int .i64 ((L.came : Int) + 1))) (((w5.setCell ⟨x, 5, none⟩ (.int .i64 ((L.came : Int) + 1))).alloc (.cells #[.int .u8 (q : Int), .int .u8 1] 5)).drew) := ((Below.refl _ _).alloc (Nat.le_refl _) _).drew
    have HWN := Lib.hid (hwr3.2.below hba)
    have HKN : Hid (Kept B [77, 22, 43, 63, 29] w _) := (HK5.out.trans (hwr3.1.mono (by simp))).trans (Kept.of_below hba)
    clear hwr3 hba
    have kc : (convert 22 9 (.slice A2 2 c2)).run Try.prog w5.drew = .ok (.string ⟨cmd.toArray⟩) w5.drew := conv_bytes _ _ cmd (HO5.out.below (drew_below _))
    have kd : (convert 22 9 (.slice A2 2 c2)).run Try.prog (w5.alloc (.cells #[.int .u8 (q : Int), .int .u8 1] 5)).drew = .ok (.string ⟨cmd.toArray⟩) (w5.alloc (.cells #[.int .u8 (q : Int), .int .u8 1] 5)).drew := conv_bytes _ _ cmd (HO5.out.below (((Below.refl _ _).alloc (Nat.le_refl _) _).drew))
    have kl : (convert 22 9 (.slice (some ⟨w5.heap.size, 0, none⟩) 2 2)).run Try.prog (w5.alloc (.cells #[.int .u8 (q : Int), .int .u8 1] 5)).drew = .ok (.string ⟨cmd.toArray⟩) (w5.alloc (.cells #[.int .u8 (q : Int), .int .u8 1] 5)).drew := conv_bytes _ _ cmd (reads_two (blk_drew (blk_new _ _)) HCE.out HN2.out)
    have hx5 : x < w5.heap.size := HL5.out.lt
    refine wp_region_held_drew (S := fun w' => w'.cell? ⟨x, 5, none⟩ = some (.int .i64 (L.came : Int)) ∧ w'.cell? ⟨x, 4, none⟩ = some (.int .i64 (L.sent : Int)) ∧ (convert 22 9 (.slice A2 2 c2)).run Try.prog w' = .ok (.string ⟨cmd.toArray⟩) w') (by kernel_rfl) ⟨blk_cell (blk_drew HL5.out.blk) 5, blk_cell (blk_drew HL5.out.blk) 4, kc⟩ (fun hS0 => ?_)
    refine wpAnyH_takeD (i := 0) (d := (some 133)) (v := (.pointer (some ⟨x, 0, none⟩))) rfl rfl (by kernel_rfl) (by kernel_rfl) (by kernel_rfl) (fun _ _ _ h => h) (Or.inl ⟨by rfl, fun w hw => by obtain ⟨h1, h2, h3⟩ := hw; go_simp⟩) hS0 ?_
    try simp only [Act.put, List.setIfInBounds_toArray, List.set_cons_zero, List.set_cons_succ]
    refine wpAnyH_takeD (i := 1) (d := (some 134)) (v := (.pointer (some ⟨x, 0, none⟩))) rfl rfl (by kernel_rfl) (by kernel_rfl) (by kernel_rfl) (fun _ _ _ h => h) (Or.inl ⟨by rfl, fun w hw => by obtain ⟨h1, h2, h3⟩ := hw; go_simp⟩) hS0 ?_
    try simp only [Act.put, List.setIfInBounds_toArray, List.set_cons_zero, List.set_cons_succ]
    refine wpAnyH_takeD (i := 2) (d := (some 135)) (v := (.pointer (some ⟨x, 5, none⟩))) rfl rfl (by kernel_rfl) (by kernel_rfl) (by kernel_rfl) (fun _ _ _ h => h) (Or.inl ⟨by rfl, fun w hw => by obtain ⟨h1, h2, h3⟩ := hw; go_simp⟩) hS0 ?_
    try simp only [Act.put, List.setIfInBounds_toArray, List.set_cons_zero, List.set_cons_succ]
    refine wpAnyH_takeD (i := 3) (d := (some 136)) (v := (.int .i64 (L.came : Int))) rfl rfl (by kernel_rfl) (by kernel_rfl) (by kernel_rfl) (fun _ _ _ h => h) (Or.inl ⟨by rfl, fun w hw => by obtain ⟨h1, h2, h3⟩ := hw; go_simp⟩) hS0 ?_
    try simp only [Act.put, List.setIfInBounds_toArray, List.set_cons_zero, List.set_cons_succ]
    refine wpAnyH_takeD (i := 4) (d := (some 137)) (v := (.pointer (some ⟨x, 0, none⟩))) rfl rfl (by kernel_rfl) (by kernel_rfl) (by kernel_rfl) (fun _ _ _ h => h) (Or.inl ⟨by rfl, fun w hw => by obtain ⟨h1, h2, h3⟩ := hw; go_simp⟩) hS0 ?_
    try simp only [Act.put, List.setIfInBounds_toArray, List.set_cons_zero, List.set_cons_succ]
    refine wpAnyH_takeD (i := 5) (d := (some 138)) (v := (.pointer (some ⟨x, 0, none⟩))) rfl rfl (by kernel_rfl) (by kernel_rfl) (by kernel_rfl) (fun _ _ _ h => h) (Or.inl ⟨by rfl, fun w hw => by obtain ⟨h1, h2, h3⟩ := hw; go_simp⟩) hS0 ?_
    try simp only [Act.put, List.setIfInBounds_toArray, List.set_cons_zero, List.set_cons_succ]
    refine wpAnyH_takeD (i := 6) (d := (some 139)) (v := (.pointer (some ⟨x, 4, none⟩))) rfl rfl (by kernel_rfl) (by kernel_rfl) (by kernel_rfl) (fun _ _ _ h => h) (Or.inl ⟨by rfl, fun w hw => by obtain ⟨h1, h2, h3⟩ := hw; go_simp⟩) hS0 ?_
    try simp only [Act.put, List.setIfInBounds_toArray, List.set_cons_zero, List.set_cons_succ]
    refine wpAnyH_takeD (i := 7) (d := (some 140)) (v := (.int .i64 (L.sent : Int))) rfl rfl (by kernel_rfl) (by kernel_rfl) (by kernel_rfl) (fun _ _ _ h => h) (Or.inl ⟨by rfl, fun w hw => by obtain ⟨h1, h2, h3⟩ := hw; go_simp⟩) hS0 ?_
    try simp only [Act.put, List.setIfInBounds_toArray, List.set_cons_zero, List.set_cons_succ]
    refine wpAnyH_takeD (i := 8) (d := (some 141)) (v := (.bool false)) rfl rfl (by kernel_rfl) (by kernel_rfl) (by kernel_rfl) (fun _ _ _ h => h) (Or.inl ⟨by rfl, fun w hw => by obtain ⟨h1, h2, h3⟩ := hw; go_simp⟩) hS0 ?_
    try simp only [Act.put, List.setIfInBounds_toArray, List.set_cons_zero, List.set_cons_succ]
    refine wpAnyH_takeD (i := 9) (d := (some 142)) (v := (.bool false)) rfl rfl (by kernel_rfl) (by kernel_rfl) (by kernel_rfl) (fun _ _ _ h => h) (Or.inl ⟨by rfl, fun w hw => by obtain ⟨h1, h2, h3⟩ := hw; go_simp⟩) hS0 ?_
    try simp only [Act.put, List.setIfInBounds_toArray, List.set_cons_zero, List.set_cons_succ]
    refine wpAnyH_takeD (i := 10) (d := (some 143)) (v := (.slice A2 2 c2)) rfl rfl (by kernel_rfl) (by kernel_rfl) (by kernel_rfl) (fun _ _ _ h => h) (Or.inl ⟨by rfl, fun w hw => by obtain ⟨h1, h2, h3⟩ := hw; go_simp⟩) hS0 ?_
    try simp only [Act.put, List.setIfInBounds_toArray, List.set_cons_zero, List.set_cons_succ]
    refine wpAnyH_takeD (i := 11) (d := (some 144)) (v := (.string ⟨cmd.toArray⟩)) rfl rfl (by kernel_rfl) (by kernel_rfl) (by kernel_rfl) (fun _ _ _ h => h) (Or.inl ⟨by rfl, fun w hw => by obtain ⟨h1, h2, h3⟩ := hw; go_simp⟩) hS0 ?_
    try simp only [Act.put, List.setIfInBounds_toArray, List.set_cons_zero, List.set_cons_succ]
    refine wpAnyH_takeD (i := 12) (d := (some 145)) (v := (.pointer (some ⟨x, 0, none⟩))) rfl rfl (by kernel_rfl) (by kernel_rfl) (by kernel_rfl) (fun _ _ _ h => h) (Or.inl ⟨by rfl, fun w hw => by obtain ⟨h1, h2, h3⟩ := hw; go_simp⟩) hS0 ?_
    try simp only [Act.put, List.setIfInBounds_toArray, List.set_cons_zero, List.set_cons_succ]
    refine wpAnyH_takeD (i := 13) (d := (some 146)) (v := (.pointer (some ⟨x, 0, none⟩))) rfl rfl (by kernel_rfl) (by kernel_rfl) (by kernel_rfl) (fun _ _ _ h => h) (Or.inl ⟨by rfl, fun w hw => by obtain ⟨h1, h2, h3⟩ := hw; go_simp⟩) hS0 ?_
    try simp only [Act.put, List.setIfInBounds_toArray, List.set_cons_zero, List.set_cons_succ]
    refine wpAnyH_takeD (i := 14) (d := (some 147)) (v := (.pointer (some ⟨x, 5, none⟩))) rfl rfl (by kernel_rfl) (by kernel_rfl) (by kernel_rfl) (fun _ _ _ h => h) (Or.inl ⟨by rfl, fun w hw => by obtain ⟨h1, h2, h3⟩ := hw; go_simp⟩) hS0 ?_
    try simp only [Act.put, List.setIfInBounds_toArray, List.set_cons_zero, List.set_cons_succ]
    refine wpAnyH_takeD (i := 15) (d := (some 148)) (v := (.int .i64 (L.came : Int))) rfl rfl (by kernel_rfl) (by kernel_rfl) (by kernel_rfl) (fun _ _ _ h => h) (Or.inl ⟨by rfl, fun w hw => by obtain ⟨h1, h2, h3⟩ := hw; go_simp⟩) hS0 ?_
    try simp only [Act.put, List.setIfInBounds_toArray, List.set_cons_zero, List.set_cons_succ]
    refine wpAnyH_takeD (i := 16) (d := (some 149)) (v := (.int .u8 (q : Int))) rfl rfl (by kernel_rfl) (by kernel_rfl) (by kernel_rfl) (fun _ _ _ h => h) (Or.inl ⟨by rfl, fun w hw => by obtain ⟨h1, h2, h3⟩ := hw; go_simp⟩) hS0 ?_
    try simp only [Act.put, List.setIfInBounds_toArray, List.set_cons_zero, List.set_cons_succ]
    refine wpAnyH_ready (rs := [17]) (by kernel_rfl) (by simp) ?_
    refine AllReadyH.consD (d := (some 150)) rfl rfl (fun K hK => ?_) AllReadyH.nil
    go_simp
    refine hK.out _ _ ⟨blk_cell (blk_drew (blk_alloc HL5.out.blk _)) 5, blk_cell (blk_drew (blk_alloc HL5.out.blk _)) 4, kd⟩ (fun hS1 => ?_)
    clear hK K
    try simp only [Act.put, List.setIfInBounds_toArray, List.set_cons_zero, List.set_cons_succ]
    refine wpAnyH_mono (S' := fun w' => (w'.cell? ⟨x, 5, none⟩ = some (.int .i64 (L.came : Int)) ∧ w'.cell? ⟨x, 4, none⟩ = some (.int .i64 (L.sent : Int)) ∧ (convert 22 9 (.slice A2 2 c2)).run Try.prog w' = .ok (.string ⟨cmd.toArray⟩) w') ∧ (convert 22 9 (.slice (some ⟨w5.heap.size, 0, none⟩) 2 2)).run Try.prog w' = .ok (.string ⟨cmd.toArray⟩) w') (fun _ h => h.1) ?_
    have hS2 := And.intro hS1 kl
    refine wpAnyH_takeD (i := 18) (d := (some 151)) (v := (.string ⟨cmd.toArray⟩)) rfl rfl (by kernel_rfl) (by kernel_rfl) (by kernel_rfl) (fun _ _ _ h => h) (Or.inl ⟨by rfl, fun w hw => by obtain ⟨⟨h1, h2, h3⟩, h4⟩ := hw; go_simp⟩) hS2 ?_
    try simp only [Act.put, List.setIfInBounds_toArray, List.set_cons_zero, List.set_cons_succ]
    refine wpAnyH_takeD (i := 19) (d := (some 152)) (v := (.bool false)) rfl rfl (by kernel_rfl) (by kernel_rfl) (by kernel_rfl) (fun _ _ _ h => h) (Or.inl ⟨by rfl, fun w hw => by obtain ⟨⟨h1, h2, h3⟩, h4⟩ := hw; go_simp⟩) hS2 ?_
    try simp only [Act.put, List.setIfInBounds_toArray, List.set_cons_zero, List.set_cons_succ]
    refine wpAnyH_takeD (i := 20) (d := (some 153)) (v := (.bool false)) rfl rfl (by kernel_rfl) (by kernel_rfl) (by kernel_rfl) (fun _ _ _ h => h) (Or.inl ⟨by rfl, fun w hw => by obtain ⟨⟨h1, h2, h3⟩, h4⟩ := hw; go_simp⟩) hS2 ?_
    try simp only [Act.put, List.setIfInBounds_toArray, List.set_cons_zero, List.set_cons_succ]
    refine wpAnyH_done (by kernel_rfl) ?_ _
    go_wp2_with fail
    go_ret
    exact ⟨rfl, HKN.out, _, _, _, _, HWN.out⟩
end Go.Proofs.Ytmhdckpmkgkglaa
