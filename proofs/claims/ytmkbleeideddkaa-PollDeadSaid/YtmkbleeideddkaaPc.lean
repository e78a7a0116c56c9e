/- Alive, Dead, Is. -/
import Derived.Test.YtmkbleeideddkaaPb
set_option linter.unusedVariables false
set_option linter.unusedSimpArgs false
namespace Go.Proofs.Ytmkbleeideddkaa
open Go.RowKit

set_option maxHeartbeats 2000000 in
theorem dead1_any (w : World) (a bx : Nat) (p : PP) (now : Int) (h : PeerAt w a p) (hx : w.cell? ⟨bx, 0, none⟩ = some (.int .i64 now)) (hne : bx ≠ a) :
    Calls Try.prog 27 #[.pointer (some ⟨a, 0, none⟩), .pointer (some ⟨bx, 0, none⟩)] w fun e w' => e = .returned (.tuple #[]) ∧ w.grownBy w' (some a) ∧ PeerAt w' a { p with dead := true, since := now } := by
  have p0 := blk_cell h 0
  have p1 := blk_cell h 1
  have p2 := blk_cell h 2
  have f1 := blk_frozen h 1
  have f2 := blk_frozen h 2
  simp at p0 p1 p2
  have H : Hid (w.heap[a]? = some (.cells #[.int .u8 p.addr, .bool p.dead, .int .i64 p.since] 58 (0, 0))) := h
  clear h
  go_enter Try.func27, Try.ntmps27
  go_wp2_with fail
  go_region
  all_goals
    go_wp2
    go_end0
    refine ⟨rfl, ?_, ?_⟩
    · repeat' (first | (with_reducible exact grown_refl _ _) | (with_reducible refine grown_set ?_ _ _) | (with_reducible refine grown_drewN ?_ _) | (with_reducible refine grown_drew ?_))
    · first
        | (have := blk_set (blk_set (blk_drew H.out) 1 (.bool true)) 2 (.int .i64 now); simpa [PeerAt] using this)
        | (have := blk_set (blk_set (blk_drew H.out) 2 (.int .i64 now)) 1 (.bool true); simpa [PeerAt] using this)
        | (have := blk_drew (blk_set (blk_set H.out 1 (.bool true)) 2 (.int .i64 now)); simpa [PeerAt] using this)
        | (have := blk_drew (blk_set (blk_set H.out 2 (.int .i64 now)) 1 (.bool true)); simpa [PeerAt] using this)

set_option maxHeartbeats 2000000 in
theorem alive1_any (w : World) (a : Nat) (p : PP) (h : PeerAt w a p) :
    Calls Try.prog 28 #[.pointer (some ⟨a, 0, none⟩)] w fun e w' => e = .returned (.tuple #[]) ∧ w.grownBy w' (some a) ∧ PeerAt w' a { p with dead := false } := by
  have p1 := blk_cell h 1
  have f1 := blk_frozen h 1
  simp at p1
  have H : Hid (w.heap[a]? = some (.cells #[.int .u8 p.addr, .bool p.dead, .int .i64 p.since] 58 (0, 0))) := h
  clear h
  go_enter Try.func28, Try.ntmps28
  go_wp2
  go_end0
  refine ⟨rfl, grown_set (grown_refl _ _) _ _, ?_⟩
  have := blk_set H.out 1 (.bool false)
  simpa [PeerAt] using this

/-- What a call on a poll leaves as it was: all but the poll's own blocks. -/
structure KeptU (g : Nat) (us : List Nat) (w w' : World) : Prop where
  os : w'.os = w.os
  tape : w'.tape = w.tape
  output : w'.output = w.output
  size : w.heap.size ≤ w'.heap.size
  block : ∀ k, k < w.heap.size → k ≠ g → k ∉ us → w'.heap[k]? = w.heap[k]?
theorem KeptU.trans {g : Nat} {us : List Nat} {w w1 w2 : World} (h : KeptU g us w w1) (k : KeptU g us w1 w2) : KeptU g us w w2 :=
  ⟨k.os.trans h.os, k.tape.trans h.tape, k.output.trans h.output, Nat.le_trans h.size k.size, fun i hi h1 h2 => (k.block i (Nat.lt_of_lt_of_le hi h.size) h1 h2).trans (h.block i hi h1 h2)⟩
theorem KeptU.of_below {g : Nat} {us : List Nat} {w w1 : World} (h : Below w.heap.size w w1) : KeptU g us w w1 :=
  ⟨h.os, h.tape, h.output, h.size, fun i hi _ _ => h.block i hi⟩
theorem KeptU.of_grown {g a : Nat} {us : List Nat} {w w1 : World} (h : w.grownBy w1 (some a)) (ha : a = g ∨ a ∈ us) : KeptU g us w w1 :=
  ⟨h.os, h.tape, h.output, h.size, fun i hi h1 h2 => h.block i hi (fun e => by
    cases e
    rcases ha with rfl | ha
    · exact h1 rfl
    · exact h2 ha)⟩
theorem PollIn.ty {w : World} {B g : Nat} {v : Value} {us : List Nat} {P : PS} (h : PollIn w B g v us P) {a : Nat} (ha : a ∈ us) : ∃ cs, w.heap[a]? = some (.cells cs 58 (0, 0)) := by
  obtain ⟨i, hi, rfl⟩ := List.getElem_of_mem ha
  have hp : i < P.row.length := by have := h.len; omega
  exact ⟨_, h.pe i _ _ (List.getElem?_eq_getElem hi) (List.getElem?_eq_getElem hp)⟩
theorem KeptU.kept {w w' : World} {B g : Nat} {v : Value} {us : List Nat} {P : PS} (k : KeptU g us w w') (h : PollIn w B g v us P) : Kept B [54, 58] w w' :=
  ⟨k.os, k.tape, k.output, k.size, fun i hi hc => by
    refine k.block i hi (fun e => ?_) (fun e => ?_)
    · subst e
      rcases hc with hc | ⟨cs, t, fr, hc, ht⟩
      · have := h.ge
        omega
      · rw [h.blk] at hc
        cases hc
        exact ht (by simp)
    · rcases hc with hc | ⟨cs, t, fr, hc, ht⟩
      · have := h.lo i e
        omega
      · obtain ⟨cs', h2⟩ := h.ty e
        rw [h2] at hc
        cases hc
        exact ht (by simp)⟩
def TurnEnd (w : World) (B g : Nat) (n : Int) (P : PS) (e : Ending) (w' : World) : Prop := e = .returned (.int .i64 n) ∧ Kept B [54, 58] w w' ∧ PollAt w' B g P
def TurnEndU (w : World) (B g : Nat) (v : Value) (us : List Nat) (n : Int) (P : PS) (e : Ending) (w' : World) : Prop := e = .returned (.int .i64 n) ∧ KeptU g us w w' ∧ PollIn w' B g v us P

set_option maxHeartbeats 2000000 in
theorem turned_none (w : World) (B g : Nat) (P : PS) (y : Int) (fv : Value) (v : Value) (us : List Nat) (h : PollIn w B g v us P) (hf : findF P.row y = none) :
    Calls Try.prog 26 #[.pointer (some ⟨g, 0, none⟩), .int .u8 y, fv] w (TurnEndU w B g v us 6 P) := by
  have H := Lib.hid h
  have hin := h
  have HI := Lib.hid hin
  have HF := Lib.hid hf
  clear hin hf
  go_enter Try.func26, Try.ntmps26
  go_wp2_with fail
  refine (find_any _ B g v us P y HI.out).mono ?_
  rw [HF.out]
  rintro e w2 ⟨rfl, hb⟩
  have HB := Lib.hid hb
  clear hb
  unfold ptrF
  go_wp2_with fail
  go_ret
  exact ⟨rfl, KeptU.of_below HB.out, H.out.below HB.out⟩

theorem write_end {w w2 w3 : World} {B g : Nat} {v : Value} {us : List Nat} {P : PS} {i a : Nat} {p : PP} {f : PP → PP} (hi : PollIn w2 B g v us P) (hb : Below w.heap.size w w2) (ha : us[i]? = some a) (hp : P.row[i]? = some p) (hg : w2.grownBy w3 (some a)) (hn : PeerAt w3 a (f p)) (hsb : I64 (f p).since) :
    KeptU g us w w3 ∧ PollIn w3 B g v us { P with row := P.row.modify i f } := by
  obtain ⟨h1, h2⟩ := hi.write ha hp hg hn hsb
  have he : (P.row.modify i fun _ => f p) = P.row.modify i f := by
    apply List.ext_getElem?
    intro j
    simp only [List.getElem?_modify]
    by_cases hij : i = j
    · subst hij
      rw [hp]
      rfl
    · simp [hij]
  rw [he] at h1
  exact ⟨(KeptU.of_below hb).trans (KeptU.of_grown hg (.inr (List.mem_of_getElem? ha))), h1⟩

set_option maxHeartbeats 2000000 in
theorem turned_dead (w : World) (B g : Nat) (P : PS) (y now : Int) (bx i : Nat) (v : Value) (us : List Nat) (h : PollIn w B g v us P) (hx : w.heap[bx]? = some (.cells #[.int .i64 now] 3 (0, 0))) (hf : findF P.row y = some i) (hnow : I64 now) :
    Calls Try.prog 26 #[.pointer (some ⟨g, 0, none⟩), .int .u8 y, .func (.func 27) #[] #[.pointer (some ⟨bx, 0, none⟩)]] w (TurnEndU w B g v us 0 { P with row := P.row.modify i fun p => { p with dead := true, since := now } }) := by
  have hin := h
  have HI := Lib.hid hin
  have HF := Lib.hid hf
  have HX := Lib.hid hx
  obtain ⟨a, gr, c', p, ha, hp, _⟩ := hin.at (findF_lt hf)
  have HA := Lib.hid ha
  have HP := Lib.hid hp
  clear hin hf hx ha hp
  go_enter Try.func26, Try.ntmps26
  go_wp2_with fail
  refine (find_any _ B g v us P y HI.out).mono ?_
  rw [HF.out]
  rintro e w2 ⟨rfl, hb⟩
  have HB := Lib.hid hb
  have HI2 := Lib.hid (HI.out.below hb)
  have hud : us.getD i 0 = a := by rw [List.getD, HA.out]; rfl
  unfold ptrF
  simp only [hud]
  have hpe := HI2.out.pe i a p HA.out HP.out
  have hx2 := blk_below' HX.out hb
  have hne : bx ≠ a := by
    rintro rfl
    rw [hpe] at hx2
    cases hx2
  have HPE := Lib.hid hpe
  have HX2 := Lib.hid hx2
  clear hb hud hpe hx2
  go_wp2_with fail
  refine (dead1_any _ a bx p now HPE.out (blk_cell HX2.out 0) hne).mono ?_
  rintro e w3 ⟨rfl, hg3, hn3⟩
  have HE := Lib.hid (write_end (f := fun p => { p with dead := true, since := now }) HI2.out HB.out HA.out HP.out hg3 hn3 hnow)
  clear hg3 hn3
  go_wp2_with fail
  go_ret
  exact ⟨rfl, HE.out.1, HE.out.2⟩

set_option maxHeartbeats 2000000 in
theorem turned_alive (w : World) (B g : Nat) (P : PS) (y : Int) (i : Nat) (v : Value) (us : List Nat) (h : PollIn w B g v us P) (hf : findF P.row y = some i) :
    Calls Try.prog 26 #[.pointer (some ⟨g, 0, none⟩), .int .u8 y, .func (.func 28) #[] #[]] w (TurnEndU w B g v us 0 { P with row := P.row.modify i fun p => { p with dead := false } }) := by
  have hin := h
  have HI := Lib.hid hin
  have HF := Lib.hid hf
  obtain ⟨a, gr, c', p, ha, hp, _⟩ := hin.at (findF_lt hf)
  have HA := Lib.hid ha
  have HP := Lib.hid hp
  clear hin hf ha hp
  go_enter Try.func26, Try.ntmps26
  go_wp2_with fail
  refine (find_any _ B g v us P y HI.out).mono ?_
  rw [HF.out]
  rintro e w2 ⟨rfl, hb⟩
  have HB := Lib.hid hb
  have HI2 := Lib.hid (HI.out.below hb)
  have hud : us.getD i 0 = a := by rw [List.getD, HA.out]; rfl
  unfold ptrF
  simp only [hud]
  have hpe := HI2.out.pe i a p HA.out HP.out
  have HPE := Lib.hid hpe
  clear hb hud hpe
  go_wp2_with fail
  refine (alive1_any _ a p HPE.out).mono ?_
  rintro e w3 ⟨rfl, hg3, hn3⟩
  have HE := Lib.hid (write_end (f := fun p => { p with dead := false }) HI2.out HB.out HA.out HP.out hg3 hn3 (HI2.out.sb p (List.mem_of_getElem? HP.out)))
  clear hg3 hn3
  go_wp2_with fail
  go_ret
  exact ⟨rfl, HE.out.1, HE.out.2⟩

set_option maxHeartbeats 2000000 in
theorem poll_deadU (w : World) (B g : Nat) (P P' : PS) (y now n : Int) (v : Value) (us : List Nat) (h : PollIn w B g v us P) (hnow : I64 now) (hF : P.dead y now = (n, P')) :
    Calls Try.prog 15 #[.pointer (some ⟨g, 0, none⟩), .int .u8 y, .int .i64 now] w (TurnEndU w B g v us n P') := by
  have hmf : ∀ (fn : Fn) (first cap : Array Value) (w : World), (Instr.makeFunc fn first cap).run Try.prog w = .ok (.func fn first cap) w := fun _ _ _ _ => rfl
  have hal : Below w.heap.size w (w.alloc (.cells #[.int .i64 now] 3)) := (Below.refl _ _).alloc (Nat.le_refl _) _
  have H := Lib.hid (h.below hal)
  have HAL := Lib.hid hal
  clear h hal
  unfold PS.dead at hF
  cases hf : findF P.row y with
  | none =>
    rw [hf] at hF
    cases hF
    have HF := Lib.hid hf
    clear hf
    go_enter Try.func15, Try.ntmps15
    go_wp2_with fail
    refine (turned_none _ B g P y _ v us H.out HF.out).mono ?_
    rintro e w2 ⟨rfl, hk, hp⟩
    have HK := Lib.hid hk
    have HP := Lib.hid hp
    clear hk hp
    go_wp2_with fail
    go_ret
    exact ⟨rfl, (KeptU.of_below HAL.out).trans HK.out, HP.out⟩
  | some i =>
    rw [hf] at hF
    cases hF
    have HF := Lib.hid hf
    clear hf
    go_enter Try.func15, Try.ntmps15
    go_wp2_with fail
    refine (turned_dead _ B g P y now w.heap.size i v us H.out (blk_new _ _) HF.out hnow).mono ?_
    rintro e w2 ⟨rfl, hk, hp⟩
    have HK := Lib.hid hk
    have HP := Lib.hid hp
    clear hk hp
    go_wp2_with fail
    go_ret
    exact ⟨rfl, (KeptU.of_below HAL.out).trans HK.out, HP.out⟩

set_option maxHeartbeats 2000000 in
theorem poll_aliveU (w : World) (B g : Nat) (P P' : PS) (y n : Int) (v : Value) (us : List Nat) (h : PollIn w B g v us P) (hF : P.alive y = (n, P')) :
    Calls Try.prog 17 #[.pointer (some ⟨g, 0, none⟩), .int .u8 y] w (TurnEndU w B g v us n P') := by
  have H := Lib.hid h
  clear h
  unfold PS.alive at hF
  cases hf : findF P.row y with
  | none =>
    rw [hf] at hF
    cases hF
    have HF := Lib.hid hf
    clear hf
    go_enter Try.func17, Try.ntmps17
    go_wp2_with fail
    refine (turned_none _ B g P y _ v us H.out HF.out).mono ?_
    rintro e w2 ⟨rfl, hk, hp⟩
    have HK := Lib.hid hk
    have HP := Lib.hid hp
    clear hk hp
    go_wp2_with fail
    go_ret
    exact ⟨rfl, HK.out, HP.out⟩
  | some i =>
    rw [hf] at hF
    cases hF
    have HF := Lib.hid hf
    clear hf
    go_enter Try.func17, Try.ntmps17
    go_wp2_with fail
    refine (turned_alive _ B g P y i v us H.out HF.out).mono ?_
    rintro e w2 ⟨rfl, hk, hp⟩
    have HK := Lib.hid hk
    have HP := Lib.hid hp
    clear hk hp
    go_wp2_with fail
    go_ret
    exact ⟨rfl, HK.out, HP.out⟩

theorem poll_dead (w : World) (B g : Nat) (P P' : PS) (y now n : Int) (h : PollAt w B g P) (hnow : I64 now) (hF : P.dead y now = (n, P')) :
    Calls Try.prog 15 #[.pointer (some ⟨g, 0, none⟩), .int .u8 y, .int .i64 now] w (TurnEnd w B g n P') := by
  obtain ⟨v, us, hin⟩ := h
  exact (poll_deadU w B g P P' y now n v us hin hnow hF).mono fun e w' ⟨h1, h2, h3⟩ => ⟨h1, h2.kept hin, v, us, h3⟩
theorem poll_alive (w : World) (B g : Nat) (P P' : PS) (y n : Int) (h : PollAt w B g P) (hF : P.alive y = (n, P')) :
    Calls Try.prog 17 #[.pointer (some ⟨g, 0, none⟩), .int .u8 y] w (TurnEnd w B g n P') := by
  obtain ⟨v, us, hin⟩ := h
  exact (poll_aliveU w B g P P' y n v us hin hF).mono fun e w' ⟨h1, h2, h3⟩ => ⟨h1, h2.kept hin, v, us, h3⟩

set_option maxHeartbeats 2000000 in
theorem poll_is (w : World) (B g : Nat) (P : PS) (y : Int) (h : PollAt w B g P) :
    Calls Try.prog 19 #[.pointer (some ⟨g, 0, none⟩), .int .u8 y] w fun e w' => e = .returned (.bool (P.is y)) ∧ Below w.heap.size w w' := by
  obtain ⟨v, us, hin⟩ := h
  have HI := Lib.hid hin
  cases hf : findF P.row y with
  | none =>
    have his : P.is y = false := by unfold PS.is; rw [hf]
    rw [his]
    have HF := Lib.hid hf
    clear hf his hin
    go_enter Try.func19, Try.ntmps19
    go_wp2_with fail
    refine (find_any _ B g v us P y HI.out).mono ?_
    rw [HF.out]
    rintro e w2 ⟨rfl, hb⟩
    have HB := Lib.hid hb
    clear hb
    unfold ptrF
    go_wp2_with fail
    go_ret
    exact ⟨rfl, HB.out⟩
  | some i =>
    obtain ⟨a, gr, c', p, ha, hp, _⟩ := hin.at (findF_lt hf)
    have his : P.is y = !p.dead := by unfold PS.is; rw [hf]; simp [hp]
    rw [his]
    have HF := Lib.hid hf
    have HA := Lib.hid ha
    have HP := Lib.hid hp
    clear hf his hin ha hp
    go_enter Try.func19, Try.ntmps19
    go_wp2_with fail
    refine (find_any _ B g v us P y HI.out).mono ?_
    rw [HF.out]
    rintro e w2 ⟨rfl, hb⟩
    have hud : us.getD i 0 = a := by rw [List.getD, HA.out]; rfl
    have hpe := (HI.out.below hb).pe i a p HA.out HP.out
    have p1 := blk_cell hpe 1
    simp at p1
    have HB := Lib.hid hb
    unfold ptrF
    simp only [hud]
    clear hb hud hpe
    go_wp2_with fail
    go_ret
    exact ⟨rfl, HB.out⟩
end Go.Proofs.Ytmkbleeideddkaa
