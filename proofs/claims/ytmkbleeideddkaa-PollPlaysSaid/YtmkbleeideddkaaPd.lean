/- due, Next. -/
import Derived.Test.YtmkbleeideddkaaPc
import Derived.IntWalk
set_option linter.unusedVariables false
set_option linter.unusedSimpArgs false
namespace Go.Proofs.Ytmkbleeideddkaa
open Go.RowKit

section
variable {P : Program} {ops : Array Oper} {Q : Exit → Act → World → Prop} {md : Region.Mode} {S : World → Prop}
/-- An operation that only reads is taken first: told by its number and its slot. -/
theorem wpAnyH_takeD {i : Nat} {oi : Oper} {d : Option Tmp} {v : Value} {fuel : Nat} {listed : Array Bool} {a : Act} {w : World} (hi : ops[i]? = some oi) (hd : oi.dst = d)
    (hs : Region.noSelect ops = true) (hf : Region.free md ops listed i = true) (hr : (Region.ready md ops listed).contains i = true)
    (hQ : ∀ c a w, Q (.panic c) (a.put d v) w → Q (.panic c) a w) (hy : YieldsIf P ops S oi v a) (hS : S w)
    (h : wpAnyH P md ops Q S fuel (listed.setIfInBounds i true) (a.put d v) w) : wpAnyH P md ops Q S (fuel + 1) listed a w := by
  subst hd
  exact wpAnyH_take hi hs hf hr hQ hy hS h
theorem AllReadyH.consD {fuel : Nat} {listed : Array Bool} {a : Act} {w : World} {i : Nat} {o : Oper} {d : Option Tmp} {rs : List Nat} (ho : ops[i]? = some o) (hd : o.dst = d)
    (h : ∀ K' : Act → World → Prop, Shut (∀ a w, S w → (S w → wpAnyH P md ops Q S fuel (listed.setIfInBounds i true) a w) → K' a w) → if Region.wanted o (yielded ops a.tmps) = true then Oper.wp P o a w K' Q else K' (a.put d undef) w)
    (hs : AllReadyH P md ops Q S fuel listed a w rs) : AllReadyH P md ops Q S fuel listed a w (i :: rs) := by
  subst hd
  exact AllReadyH.cons ho h hs
end

theorem wrapU (n : Int) : IntKind.u64.wrap n = n % 18446744073709551616 := by simp [IntKind.wrap, IntKind.bits, IntKind.signed]
def DueEnd (w : World) (b : Bool) (e : Ending) (w' : World) : Prop := e = .returned (.bool b) ∧ Below w.heap.size w w'
set_option maxHeartbeats 2000000 in
theorem due_any (w : World) (p : PP) (now : Int) (b : Bool) (hp : I64 p.since) (hn : I64 now) (hb : dueB p now = b) :
    Calls Try.prog 24 #[.agg #[.int .u8 p.addr, .bool p.dead, .int .i64 p.since], .int .i64 now] w (DueEnd w b) := by
  obtain ⟨ad, dd, s⟩ := p
  obtain ⟨hp1, hp2⟩ := hp
  obtain ⟨hn1, hn2⟩ := hn
  simp only [] at hp1 hp2
  unfold dueB at hb
  simp only [] at hb
  cases dd with
  | false =>
    have : b = false := by rw [← hb]; rfl
    subst this
    clear hb
    go_enter Try.func24, Try.ntmps24
    go_wp2_with fail
    go_ret
    exact ⟨rfl, (Below.refl _ _).alloc (Nat.le_refl _) _⟩
  | true =>
    by_cases h1 : s ≤ now
    · have hd1 : decide (s ≤ now) = true := by simpa using h1
      obtain ⟨d, hd⟩ : ∃ d : Nat, now - s = (d : Int) := ⟨(now - s).toNat, by omega⟩
      have hw : IntKind.u64.wrap (IntKind.u64.wrap now - IntKind.u64.wrap s) = (d : Int) := by
        rw [wrapU, wrapU, wrapU]
        omega
      have hb' : b = decide ((20 : Int) ≤ (d : Int)) := by
        rw [← hb, hd, hd1]
        rfl
      subst hb'
      have HD := Lib.hid hd
      clear hb hd
      go_enter Try.func24, Try.ntmps24
      go_wp2_with fail
      go_ret
      exact ⟨rfl, (Below.refl _ _).alloc (Nat.le_refl _) _⟩
    · have hd1 : decide (s ≤ now) = false := by simpa using h1
      have : b = false := by rw [← hb, hd1]; rfl
      subst this
      clear hb
      go_enter Try.func24, Try.ntmps24
      go_wp2_with fail
      go_ret
      exact ⟨rfl, (Below.refl _ _).alloc (Nat.le_refl _) _⟩

theorem best_succ (l : List PP) (now : Int) (k : Nat) (p : PP) (h : l[k]? = some p) : bestF l now (k + 1) = if dueB p now && betterB l p (bestF l now k) then some k else bestF l now k := by
  simp [bestF, h]
theorem best_lt (l : List PP) (now : Int) (k b : Nat) (h : bestF l now k = some b) : b < k ∧ b < l.length := by
  induction k with
  | zero => cases h
  | succ k ih =>
    cases hk : l[k]? with
    | none =>
      simp only [bestF, hk] at h
      have := ih h
      omega
    | some p =>
      have hkl := (List.getElem?_eq_some_iff.1 hk).1
      rw [best_succ l now k p hk] at h
      by_cases hc : (dueB p now && betterB l p (bestF l now k)) = true
      · rw [if_pos hc] at h
        cases h; omega
      · rw [if_neg hc] at h
        have := ih h; omega
def ptrAt (us : List Nat) (i : Nat) : Nat := us.getD i 0
/-- The pointer to a peer that the search holds. -/
def bestV (us : List Nat) : Option Nat → Value
  | none => .pointer none
  | some i => .pointer (some ⟨ptrAt us i, 0, none⟩)
def NextI (w : World) (B g : Nat) (v : Value) (us : List Nat) (P : PS) (wr : World) : Prop := Below w.heap.size w wr
theorem next_keep {wr w' w2 : World} {a ab : Nat} {c0 c1 c2 c3 : Value} (h : Below wr.heap.size wr w' ∧ w'.cell? ⟨a, 0, none⟩ = some c0 ∧ w'.cell? ⟨a, 1, none⟩ = some c1 ∧ w'.cell? ⟨a, 2, none⟩ = some c2 ∧ w'.cell? ⟨ab, 2, none⟩ = some c3) (hb : Below w'.heap.size w' w2) :
    Below wr.heap.size wr w2 ∧ w2.cell? ⟨a, 0, none⟩ = some c0 ∧ w2.cell? ⟨a, 1, none⟩ = some c1 ∧ w2.cell? ⟨a, 2, none⟩ = some c2 ∧ w2.cell? ⟨ab, 2, none⟩ = some c3 :=
  have f : ∀ {q : Addr} {v : Value}, w'.cell? q = some v → w2.cell? q = some v := fun hc => (hb.cell (World.block_lt_of_cell? w' _ hc)).trans hc
  ⟨h.1.trans (hb.mono h.1.size), f h.2.1, f h.2.2.1, f h.2.2.2.1, f h.2.2.2.2⟩
theorem next_keep0 {wr w' w2 : World} {a : Nat} {c0 c1 c2 : Value} (h : Below wr.heap.size wr w' ∧ w'.cell? ⟨a, 0, none⟩ = some c0 ∧ w'.cell? ⟨a, 1, none⟩ = some c1 ∧ w'.cell? ⟨a, 2, none⟩ = some c2) (hb : Below w'.heap.size w' w2) :
    Below wr.heap.size wr w2 ∧ w2.cell? ⟨a, 0, none⟩ = some c0 ∧ w2.cell? ⟨a, 1, none⟩ = some c1 ∧ w2.cell? ⟨a, 2, none⟩ = some c2 :=
  have f : ∀ {q : Addr} {v : Value}, w'.cell? q = some v → w2.cell? q = some v := fun hc => (hb.cell (World.block_lt_of_cell? w' _ hc)).trans hc
  ⟨h.1.trans (hb.mono h.1.size), f h.2.1, f h.2.2.1, f h.2.2.2⟩
theorem drew_below (w : World) : Below w.heap.size w w.drew := (Below.refl _ _).drew
theorem turn_end {w wr : World} {B g t m : Nat} {v : Value} {us : List Nat} {P : PS} (h : PollIn wr B g v us P) (hb : Below w.heap.size w wr) (ht : t ≤ P.row.length) :
    KeptU g us w ((wr.drewN m).setCell ⟨g, 1, none⟩ (.int .i64 (t : Int))) ∧ PollIn ((wr.drewN m).setCell ⟨g, 1, none⟩ (.int .i64 (t : Int))) B g v us { P with turn := t } := by
  have h1 := h.below (below_drewN (Below.refl wr.heap.size wr) m)
  have k1 : Kept B [54] (wr.drewN m) ((wr.drewN m).setCell ⟨g, 1, none⟩ (.int .i64 (t : Int))) := Kept.of_grown (grown_set (grown_refl _ _) _ _) h1.blk (by simp) h1.ge
  refine ⟨((KeptU.of_below hb).trans (KeptU.of_below (below_drewN (Below.refl _ _) m))).trans (KeptU.of_grown (grown_set (grown_refl _ _) _ _) (.inl rfl)), h1.ge, ?_, ?_, h1.len, h1.nd, h1.lo, fun i a p ha hp => k1.blk (h1.pe i a p ha hp) (by decide), h1.n40, ht, h1.sb⟩
  · have := blk_set h1.blk 1 (.int .i64 (t : Int))
    simpa using this
  · exact own_keep h1.row fun k hkk => by
      obtain ⟨cs, fr, hh⟩ := own_ty h1.row k hkk
      exact k1.block k (blk_lt hh) (.inr ⟨_, _, _, hh, by decide⟩)
def NextEnd (w : World) (B g : Nat) (a : Int) (b : Bool) (P : PS) (e : Ending) (w' : World) : Prop := e = .returned (.tuple #[.int .u8 a, .bool b]) ∧ Kept B [54, 58] w w' ∧ PollAt w' B g P
def NextEndU (w : World) (B g : Nat) (v : Value) (us : List Nat) (a : Int) (b : Bool) (P : PS) (e : Ending) (w' : World) : Prop := e = .returned (.tuple #[.int .u8 a, .bool b]) ∧ KeptU g us w w' ∧ PollIn w' B g v us P

set_option maxHeartbeats 4000000 in
theorem poll_nextU (w : World) (B g : Nat) (P P' : PS) (now a : Int) (b : Bool) (v : Value) (us : List Nat) (h : PollIn w B g v us P) (hnow : I64 now) (hF : P.next now = (a, b, P')) :
    Calls Try.prog 13 #[.pointer (some ⟨g, 0, none⟩), .int .i64 now] w (NextEndU w B g v us a b P') := by
  have hin := h
  clear h
  obtain ⟨A, c, rfl⟩ := own_slice hin.row
  have h40 := hin.n40
  have g0 := blk_cell hin.blk 0
  simp at g0
  have H := Lib.hid hin
  have HF := Lib.hid hF
  have HNOW := Lib.hid hnow
  clear hin hF hnow
  go_enter Try.func13, Try.ntmps13
  go_wp2_with fail
  go_loopw [6, 17] (fun f i wr => ∃ k : Nat, k ≤ P.row.length ∧ i = .int .i64 k ∧ f = bestV us (bestF P.row now k) ∧ Below w.heap.size w wr) (fun _ i _ => P.row.length - (intOf i).toNat)
  case atStart => exact ⟨0, Nat.zero_le _, rfl, rfl, Below.refl _ _⟩
  case round =>
    obtain ⟨k, hk, rfl, rfl, hbr⟩ := hrel
    have HBR := Lib.hid hbr
    have HI := Lib.hid (H.out.below hbr)
    by_cases hlt : k < P.row.length
    · obtain ⟨pa, gr, c', p, ha, hp, hpe, he, hc1, hc2, hcell⟩ := HI.out.at hlt
      cases he
      have p0 := blk_cell hpe 0
      have p1 := blk_cell hpe 1
      have p2 := blk_cell hpe 2
      simp at p0 p1 p2
      have hbs := best_succ P.row now k p hp
      have hpsb : I64 p.since := H.out.sb p (List.mem_of_getElem? hp)
      have HBS := Lib.hid hbs
      have HPS := Lib.hid hpsb
      have hpl : pa < wr.heap.size := blk_lt hpe
      have hud : ptrAt us k = pa := by unfold ptrAt; rw [List.getD, ha]; rfl
      have HUD := Lib.hid hud
      have HPE := Lib.hid hpe
      obtain ⟨dd, hdd⟩ : ∃ dd, dueB p now = dd := ⟨_, rfl⟩
      obtain ⟨bf, hbf⟩ : ∃ bf, bestF P.row now k = bf := ⟨_, rfl⟩
      have HDD := Lib.hid hdd
      have HBF := Lib.hid hbf
      rw [hbf]
      clear hbs hpsb hud hdd hbf ha hp hpe hbr
      obtain ⟨rs, hrs⟩ : ∃ rs, (dd && betterB P.row p bf) = rs := ⟨_, rfl⟩
      have HRS := Lib.hid hrs
      clear hrs
      go_upto_region 5 with fail
      go_cut [40] (fun s w' => s = .bool rs ∧ Below wr.heap.size wr w')
      case first =>
        cases bf with
        | none =>
          unfold bestV
          have hrd : rs = dd := by rw [← HRS.out]; simp [betterB]
          subst hrd
          cases rs with
          | false =>
            refine wp_region_held_drew (S := fun w' => Below wr.heap.size wr w' ∧ w'.cell? ⟨pa, 0, none⟩ = some (.int .u8 p.addr) ∧ w'.cell? ⟨pa, 1, none⟩ = some (.bool p.dead) ∧ w'.cell? ⟨pa, 2, none⟩ = some (.int .i64 p.since)) (by kernel_rfl) ⟨(Below.refl _ _).drew, p0, p1, p2⟩ (fun hS0 => ?_)
            refine wpAnyH_takeD (i := 0) (d := (some 21)) (v := (.pointer (some ⟨pa, 0, none⟩))) rfl rfl (by kernel_rfl) (by kernel_rfl) (by kernel_rfl) (fun _ _ _ h => h) (Or.inl ⟨by rfl, fun w hw => by obtain ⟨hw0, hw1, hw2, hw3⟩ := hw; go_simp⟩) hS0 ?_
            try simp only [Act.put, List.setIfInBounds_toArray, List.set_cons_zero, List.set_cons_succ]
            refine wpAnyH_takeD (i := 1) (d := (some 22)) (v := (.pointer (some ⟨pa, 0, none⟩))) rfl rfl (by kernel_rfl) (by kernel_rfl) (by kernel_rfl) (fun _ _ _ h => h) (Or.inl ⟨by rfl, fun w hw => by obtain ⟨hw0, hw1, hw2, hw3⟩ := hw; go_simp⟩) hS0 ?_
            try simp only [Act.put, List.setIfInBounds_toArray, List.set_cons_zero, List.set_cons_succ]
            refine wpAnyH_takeD (i := 2) (d := (some 23)) (v := (.agg #[.int .u8 p.addr, .bool p.dead, .int .i64 p.since])) rfl rfl (by kernel_rfl) (by kernel_rfl) (by kernel_rfl) (fun _ _ _ h => h) (Or.inl ⟨by rfl, fun w hw => by obtain ⟨hw0, hw1, hw2, hw3⟩ := hw; go_simp⟩) hS0 ?_
            try simp only [Act.put, List.setIfInBounds_toArray, List.set_cons_zero, List.set_cons_succ]
            refine wpAnyH_takeD (i := 3) (d := (some 24)) (v := (.int .i64 now)) rfl rfl (by kernel_rfl) (by kernel_rfl) (by kernel_rfl) (fun _ _ _ h => h) (Or.inl ⟨by rfl, fun w hw => by obtain ⟨hw0, hw1, hw2, hw3⟩ := hw; go_simp⟩) hS0 ?_
            try simp only [Act.put, List.setIfInBounds_toArray, List.set_cons_zero, List.set_cons_succ]
            refine wpAnyH_ready (rs := [4]) (by kernel_rfl) (by simp) ?_
            refine AllReadyH.consD (d := (some 25)) rfl rfl (fun K hK => ?_) AllReadyH.nil
            go_simp
            go_at_call 24
            refine (due_any _ p now false HPS.out HNOW.out HDD.out).mono ?_
            rintro e w4 ⟨rfl, hb4⟩
            go_wp2_with fail
            refine hK.out _ _ (next_keep0 hS0 hb4) (fun hS1 => ?_)
            clear hK K
            refine wpAnyH_takeD (i := 5) (d := (some 26)) (v := (.bool false)) rfl rfl (by kernel_rfl) (by kernel_rfl) (by kernel_rfl) (fun _ _ _ h => h) (Or.inl ⟨by rfl, fun w hw => by obtain ⟨hw0, hw1, hw2, hw3⟩ := hw; go_simp⟩) hS1 ?_
            try simp only [Act.put, List.setIfInBounds_toArray, List.set_cons_zero, List.set_cons_succ]
            refine wpAnyH_takeD (i := 6) (d := (some 27)) (v := undef) rfl rfl (by kernel_rfl) (by kernel_rfl) (by kernel_rfl) (fun _ _ _ h => h) (Or.inr ⟨by rfl, rfl⟩) hS1 ?_
            try simp only [Act.put, List.setIfInBounds_toArray, List.set_cons_zero, List.set_cons_succ]
            refine wpAnyH_takeD (i := 7) (d := (some 28)) (v := undef) rfl rfl (by kernel_rfl) (by kernel_rfl) (by kernel_rfl) (fun _ _ _ h => h) (Or.inr ⟨by rfl, rfl⟩) hS1 ?_
            try simp only [Act.put, List.setIfInBounds_toArray, List.set_cons_zero, List.set_cons_succ]
            refine wpAnyH_takeD (i := 8) (d := (some 29)) (v := undef) rfl rfl (by kernel_rfl) (by kernel_rfl) (by kernel_rfl) (fun _ _ _ h => h) (Or.inr ⟨by rfl, rfl⟩) hS1 ?_
            try simp only [Act.put, List.setIfInBounds_toArray, List.set_cons_zero, List.set_cons_succ]
            refine wpAnyH_takeD (i := 9) (d := (some 30)) (v := undef) rfl rfl (by kernel_rfl) (by kernel_rfl) (by kernel_rfl) (fun _ _ _ h => h) (Or.inr ⟨by rfl, rfl⟩) hS1 ?_
            try simp only [Act.put, List.setIfInBounds_toArray, List.set_cons_zero, List.set_cons_succ]
            refine wpAnyH_takeD (i := 10) (d := (some 31)) (v := undef) rfl rfl (by kernel_rfl) (by kernel_rfl) (by kernel_rfl) (fun _ _ _ h => h) (Or.inr ⟨by rfl, rfl⟩) hS1 ?_
            try simp only [Act.put, List.setIfInBounds_toArray, List.set_cons_zero, List.set_cons_succ]
            refine wpAnyH_takeD (i := 11) (d := (some 32)) (v := undef) rfl rfl (by kernel_rfl) (by kernel_rfl) (by kernel_rfl) (fun _ _ _ h => h) (Or.inr ⟨by rfl, rfl⟩) hS1 ?_
            try simp only [Act.put, List.setIfInBounds_toArray, List.set_cons_zero, List.set_cons_succ]
            refine wpAnyH_takeD (i := 12) (d := (some 33)) (v := undef) rfl rfl (by kernel_rfl) (by kernel_rfl) (by kernel_rfl) (fun _ _ _ h => h) (Or.inr ⟨by rfl, rfl⟩) hS1 ?_
            try simp only [Act.put, List.setIfInBounds_toArray, List.set_cons_zero, List.set_cons_succ]
            refine wpAnyH_takeD (i := 13) (d := (some 34)) (v := undef) rfl rfl (by kernel_rfl) (by kernel_rfl) (by kernel_rfl) (fun _ _ _ h => h) (Or.inr ⟨by rfl, rfl⟩) hS1 ?_
            try simp only [Act.put, List.setIfInBounds_toArray, List.set_cons_zero, List.set_cons_succ]
            refine wpAnyH_takeD (i := 14) (d := (some 35)) (v := undef) rfl rfl (by kernel_rfl) (by kernel_rfl) (by kernel_rfl) (fun _ _ _ h => h) (Or.inr ⟨by rfl, rfl⟩) hS1 ?_
            try simp only [Act.put, List.setIfInBounds_toArray, List.set_cons_zero, List.set_cons_succ]
            refine wpAnyH_takeD (i := 15) (d := (some 36)) (v := undef) rfl rfl (by kernel_rfl) (by kernel_rfl) (by kernel_rfl) (fun _ _ _ h => h) (Or.inr ⟨by rfl, rfl⟩) hS1 ?_
            try simp only [Act.put, List.setIfInBounds_toArray, List.set_cons_zero, List.set_cons_succ]
            refine wpAnyH_takeD (i := 16) (d := (some 37)) (v := undef) rfl rfl (by kernel_rfl) (by kernel_rfl) (by kernel_rfl) (fun _ _ _ h => h) (Or.inr ⟨by rfl, rfl⟩) hS1 ?_
            try simp only [Act.put, List.setIfInBounds_toArray, List.set_cons_zero, List.set_cons_succ]
            refine wpAnyH_takeD (i := 17) (d := (some 38)) (v := undef) rfl rfl (by kernel_rfl) (by kernel_rfl) (by kernel_rfl) (fun _ _ _ h => h) (Or.inr ⟨by rfl, rfl⟩) hS1 ?_
            try simp only [Act.put, List.setIfInBounds_toArray, List.set_cons_zero, List.set_cons_succ]
            refine wpAnyH_takeD (i := 18) (d := (some 39)) (v := undef) rfl rfl (by kernel_rfl) (by kernel_rfl) (by kernel_rfl) (fun _ _ _ h => h) (Or.inr ⟨by rfl, rfl⟩) hS1 ?_
            try simp only [Act.put, List.setIfInBounds_toArray, List.set_cons_zero, List.set_cons_succ]
            refine wpAnyH_takeD (i := 19) (d := (some 40)) (v := (.bool false)) rfl rfl (by kernel_rfl) (by kernel_rfl) (by kernel_rfl) (fun _ _ _ h => h) (Or.inl ⟨by rfl, fun w hw => by obtain ⟨hw0, hw1, hw2, hw3⟩ := hw; go_simp⟩) hS1 ?_
            try simp only [Act.put, List.setIfInBounds_toArray, List.set_cons_zero, List.set_cons_succ]
            refine wpAnyH_done (by kernel_rfl) ?_ _
            go_wp2_with fail
            go_meet
            case rel => exact ⟨rfl, hS1.1⟩
          | true =>
            refine wp_region_held_drew (S := fun w' => Below wr.heap.size wr w' ∧ w'.cell? ⟨pa, 0, none⟩ = some (.int .u8 p.addr) ∧ w'.cell? ⟨pa, 1, none⟩ = some (.bool p.dead) ∧ w'.cell? ⟨pa, 2, none⟩ = some (.int .i64 p.since)) (by kernel_rfl) ⟨(Below.refl _ _).drew, p0, p1, p2⟩ (fun hS0 => ?_)
            refine wpAnyH_takeD (i := 0) (d := (some 21)) (v := (.pointer (some ⟨pa, 0, none⟩))) rfl rfl (by kernel_rfl) (by kernel_rfl) (by kernel_rfl) (fun _ _ _ h => h) (Or.inl ⟨by rfl, fun w hw => by obtain ⟨hw0, hw1, hw2, hw3⟩ := hw; go_simp⟩) hS0 ?_
            try simp only [Act.put, List.setIfInBounds_toArray, List.set_cons_zero, List.set_cons_succ]
            refine wpAnyH_takeD (i := 1) (d := (some 22)) (v := (.pointer (some ⟨pa, 0, none⟩))) rfl rfl (by kernel_rfl) (by kernel_rfl) (by kernel_rfl) (fun _ _ _ h => h) (Or.inl ⟨by rfl, fun w hw => by obtain ⟨hw0, hw1, hw2, hw3⟩ := hw; go_simp⟩) hS0 ?_
            try simp only [Act.put, List.setIfInBounds_toArray, List.set_cons_zero, List.set_cons_succ]
            refine wpAnyH_takeD (i := 2) (d := (some 23)) (v := (.agg #[.int .u8 p.addr, .bool p.dead, .int .i64 p.since])) rfl rfl (by kernel_rfl) (by kernel_rfl) (by kernel_rfl) (fun _ _ _ h => h) (Or.inl ⟨by rfl, fun w hw => by obtain ⟨hw0, hw1, hw2, hw3⟩ := hw; go_simp⟩) hS0 ?_
            try simp only [Act.put, List.setIfInBounds_toArray, List.set_cons_zero, List.set_cons_succ]
            refine wpAnyH_takeD (i := 3) (d := (some 24)) (v := (.int .i64 now)) rfl rfl (by kernel_rfl) (by kernel_rfl) (by kernel_rfl) (fun _ _ _ h => h) (Or.inl ⟨by rfl, fun w hw => by obtain ⟨hw0, hw1, hw2, hw3⟩ := hw; go_simp⟩) hS0 ?_
            try simp only [Act.put, List.setIfInBounds_toArray, List.set_cons_zero, List.set_cons_succ]
            refine wpAnyH_ready (rs := [4]) (by kernel_rfl) (by simp) ?_
            refine AllReadyH.consD (d := (some 25)) rfl rfl (fun K hK => ?_) AllReadyH.nil
            go_simp
            go_at_call 24
            refine (due_any _ p now true HPS.out HNOW.out HDD.out).mono ?_
            rintro e w4 ⟨rfl, hb4⟩
            go_wp2_with fail
            refine hK.out _ _ (next_keep0 hS0 hb4) (fun hS1 => ?_)
            clear hK K
            refine wpAnyH_takeD (i := 5) (d := (some 26)) (v := (.bool true)) rfl rfl (by kernel_rfl) (by kernel_rfl) (by kernel_rfl) (fun _ _ _ h => h) (Or.inl ⟨by rfl, fun w hw => by obtain ⟨hw0, hw1, hw2, hw3⟩ := hw; go_simp⟩) hS1 ?_
            try simp only [Act.put, List.setIfInBounds_toArray, List.set_cons_zero, List.set_cons_succ]
            refine wpAnyH_takeD (i := 6) (d := (some 27)) (v := (.pointer none)) rfl rfl (by kernel_rfl) (by kernel_rfl) (by kernel_rfl) (fun _ _ _ h => h) (Or.inl ⟨by rfl, fun w hw => by obtain ⟨hw0, hw1, hw2, hw3⟩ := hw; go_simp⟩) hS1 ?_
            try simp only [Act.put, List.setIfInBounds_toArray, List.set_cons_zero, List.set_cons_succ]
            refine wpAnyH_takeD (i := 7) (d := (some 28)) (v := (.bool true)) rfl rfl (by kernel_rfl) (by kernel_rfl) (by kernel_rfl) (fun _ _ _ h => h) (Or.inl ⟨by rfl, fun w hw => by obtain ⟨hw0, hw1, hw2, hw3⟩ := hw; go_simp⟩) hS1 ?_
            try simp only [Act.put, List.setIfInBounds_toArray, List.set_cons_zero, List.set_cons_succ]
            refine wpAnyH_takeD (i := 8) (d := (some 29)) (v := (.bool true)) rfl rfl (by kernel_rfl) (by kernel_rfl) (by kernel_rfl) (fun _ _ _ h => h) (Or.inl ⟨by rfl, fun w hw => by obtain ⟨hw0, hw1, hw2, hw3⟩ := hw; go_simp⟩) hS1 ?_
            try simp only [Act.put, List.setIfInBounds_toArray, List.set_cons_zero, List.set_cons_succ]
            refine wpAnyH_takeD (i := 9) (d := (some 30)) (v := undef) rfl rfl (by kernel_rfl) (by kernel_rfl) (by kernel_rfl) (fun _ _ _ h => h) (Or.inr ⟨by rfl, rfl⟩) hS1 ?_
            try simp only [Act.put, List.setIfInBounds_toArray, List.set_cons_zero, List.set_cons_succ]
            refine wpAnyH_takeD (i := 10) (d := (some 31)) (v := undef) rfl rfl (by kernel_rfl) (by kernel_rfl) (by kernel_rfl) (fun _ _ _ h => h) (Or.inr ⟨by rfl, rfl⟩) hS1 ?_
            try simp only [Act.put, List.setIfInBounds_toArray, List.set_cons_zero, List.set_cons_succ]
            refine wpAnyH_takeD (i := 11) (d := (some 32)) (v := undef) rfl rfl (by kernel_rfl) (by kernel_rfl) (by kernel_rfl) (fun _ _ _ h => h) (Or.inr ⟨by rfl, rfl⟩) hS1 ?_
            try simp only [Act.put, List.setIfInBounds_toArray, List.set_cons_zero, List.set_cons_succ]
            refine wpAnyH_takeD (i := 12) (d := (some 33)) (v := undef) rfl rfl (by kernel_rfl) (by kernel_rfl) (by kernel_rfl) (fun _ _ _ h => h) (Or.inr ⟨by rfl, rfl⟩) hS1 ?_
            try simp only [Act.put, List.setIfInBounds_toArray, List.set_cons_zero, List.set_cons_succ]
            refine wpAnyH_takeD (i := 13) (d := (some 34)) (v := undef) rfl rfl (by kernel_rfl) (by kernel_rfl) (by kernel_rfl) (fun _ _ _ h => h) (Or.inr ⟨by rfl, rfl⟩) hS1 ?_
            try simp only [Act.put, List.setIfInBounds_toArray, List.set_cons_zero, List.set_cons_succ]
            refine wpAnyH_takeD (i := 14) (d := (some 35)) (v := undef) rfl rfl (by kernel_rfl) (by kernel_rfl) (by kernel_rfl) (fun _ _ _ h => h) (Or.inr ⟨by rfl, rfl⟩) hS1 ?_
            try simp only [Act.put, List.setIfInBounds_toArray, List.set_cons_zero, List.set_cons_succ]
            refine wpAnyH_takeD (i := 15) (d := (some 36)) (v := undef) rfl rfl (by kernel_rfl) (by kernel_rfl) (by kernel_rfl) (fun _ _ _ h => h) (Or.inr ⟨by rfl, rfl⟩) hS1 ?_
            try simp only [Act.put, List.setIfInBounds_toArray, List.set_cons_zero, List.set_cons_succ]
            refine wpAnyH_takeD (i := 16) (d := (some 37)) (v := undef) rfl rfl (by kernel_rfl) (by kernel_rfl) (by kernel_rfl) (fun _ _ _ h => h) (Or.inr ⟨by rfl, rfl⟩) hS1 ?_
            try simp only [Act.put, List.setIfInBounds_toArray, List.set_cons_zero, List.set_cons_succ]
            refine wpAnyH_takeD (i := 17) (d := (some 38)) (v := undef) rfl rfl (by kernel_rfl) (by kernel_rfl) (by kernel_rfl) (fun _ _ _ h => h) (Or.inr ⟨by rfl, rfl⟩) hS1 ?_
            try simp only [Act.put, List.setIfInBounds_toArray, List.set_cons_zero, List.set_cons_succ]
            refine wpAnyH_takeD (i := 18) (d := (some 39)) (v := (.bool true)) rfl rfl (by kernel_rfl) (by kernel_rfl) (by kernel_rfl) (fun _ _ _ h => h) (Or.inl ⟨by rfl, fun w hw => by obtain ⟨hw0, hw1, hw2, hw3⟩ := hw; go_simp⟩) hS1 ?_
            try simp only [Act.put, List.setIfInBounds_toArray, List.set_cons_zero, List.set_cons_succ]
            refine wpAnyH_takeD (i := 19) (d := (some 40)) (v := (.bool true)) rfl rfl (by kernel_rfl) (by kernel_rfl) (by kernel_rfl) (fun _ _ _ h => h) (Or.inl ⟨by rfl, fun w hw => by obtain ⟨hw0, hw1, hw2, hw3⟩ := hw; go_simp⟩) hS1 ?_
            try simp only [Act.put, List.setIfInBounds_toArray, List.set_cons_zero, List.set_cons_succ]
            refine wpAnyH_done (by kernel_rfl) ?_ _
            go_wp2_with fail
            go_meet
            case rel => exact ⟨rfl, hS1.1⟩
        | some bi =>
          obtain ⟨hb1, hb2⟩ := best_lt P.row now k bi HBF.out
          obtain ⟨ab, gr2, c2', pb, hab, hpb, hpeb, -⟩ := HI.out.at hb2
          have hub : ptrAt us bi = ab := by unfold ptrAt; rw [List.getD, hab]; rfl
          subst hub
          have pb2 := blk_cell hpeb 2
          simp at pb2
          have hsa : sinceAt P.row bi = pb.since := by unfold sinceAt; rw [hpb]; rfl
          have hpbl : ptrAt us bi < wr.heap.size := blk_lt hpeb
          have HPB := Lib.hid hpeb
          unfold bestV
          obtain ⟨lt, hltd⟩ : ∃ lt, decide (p.since < pb.since) = lt := ⟨_, rfl⟩
          have hrd : rs = (dd && lt) := by rw [← HRS.out, ← hltd, ← hsa]; rfl
          subst hrd
          clear hsa hab hpb hpeb HRS
          cases dd with
          | false =>
            refine wp_region_held_drew (S := fun w' => Below wr.heap.size wr w' ∧ w'.cell? ⟨pa, 0, none⟩ = some (.int .u8 p.addr) ∧ w'.cell? ⟨pa, 1, none⟩ = some (.bool p.dead) ∧ w'.cell? ⟨pa, 2, none⟩ = some (.int .i64 p.since)) (by kernel_rfl) ⟨(Below.refl _ _).drew, p0, p1, p2⟩ (fun hS0 => ?_)
            refine wpAnyH_takeD (i := 0) (d := (some 21)) (v := (.pointer (some ⟨pa, 0, none⟩))) rfl rfl (by kernel_rfl) (by kernel_rfl) (by kernel_rfl) (fun _ _ _ h => h) (Or.inl ⟨by rfl, fun w hw => by obtain ⟨hw0, hw1, hw2, hw3⟩ := hw; go_simp⟩) hS0 ?_
            try simp only [Act.put, List.setIfInBounds_toArray, List.set_cons_zero, List.set_cons_succ]
            refine wpAnyH_takeD (i := 1) (d := (some 22)) (v := (.pointer (some ⟨pa, 0, none⟩))) rfl rfl (by kernel_rfl) (by kernel_rfl) (by kernel_rfl) (fun _ _ _ h => h) (Or.inl ⟨by rfl, fun w hw => by obtain ⟨hw0, hw1, hw2, hw3⟩ := hw; go_simp⟩) hS0 ?_
            try simp only [Act.put, List.setIfInBounds_toArray, List.set_cons_zero, List.set_cons_succ]
            refine wpAnyH_takeD (i := 2) (d := (some 23)) (v := (.agg #[.int .u8 p.addr, .bool p.dead, .int .i64 p.since])) rfl rfl (by kernel_rfl) (by kernel_rfl) (by kernel_rfl) (fun _ _ _ h => h) (Or.inl ⟨by rfl, fun w hw => by obtain ⟨hw0, hw1, hw2, hw3⟩ := hw; go_simp⟩) hS0 ?_
            try simp only [Act.put, List.setIfInBounds_toArray, List.set_cons_zero, List.set_cons_succ]
            refine wpAnyH_takeD (i := 3) (d := (some 24)) (v := (.int .i64 now)) rfl rfl (by kernel_rfl) (by kernel_rfl) (by kernel_rfl) (fun _ _ _ h => h) (Or.inl ⟨by rfl, fun w hw => by obtain ⟨hw0, hw1, hw2, hw3⟩ := hw; go_simp⟩) hS0 ?_
            try simp only [Act.put, List.setIfInBounds_toArray, List.set_cons_zero, List.set_cons_succ]
            refine wpAnyH_ready (rs := [4]) (by kernel_rfl) (by simp) ?_
            refine AllReadyH.consD (d := (some 25)) rfl rfl (fun K hK => ?_) AllReadyH.nil
            go_simp
            go_at_call 24
            refine (due_any _ p now false HPS.out HNOW.out HDD.out).mono ?_
            rintro e w4 ⟨rfl, hb4⟩
            go_wp2_with fail
            refine hK.out _ _ (next_keep0 hS0 hb4) (fun hS1 => ?_)
            clear hK K
            refine wpAnyH_takeD (i := 5) (d := (some 26)) (v := (.bool false)) rfl rfl (by kernel_rfl) (by kernel_rfl) (by kernel_rfl) (fun _ _ _ h => h) (Or.inl ⟨by rfl, fun w hw => by obtain ⟨hw0, hw1, hw2, hw3⟩ := hw; go_simp⟩) hS1 ?_
            try simp only [Act.put, List.setIfInBounds_toArray, List.set_cons_zero, List.set_cons_succ]
            refine wpAnyH_takeD (i := 6) (d := (some 27)) (v := undef) rfl rfl (by kernel_rfl) (by kernel_rfl) (by kernel_rfl) (fun _ _ _ h => h) (Or.inr ⟨by rfl, rfl⟩) hS1 ?_
            try simp only [Act.put, List.setIfInBounds_toArray, List.set_cons_zero, List.set_cons_succ]
            refine wpAnyH_takeD (i := 7) (d := (some 28)) (v := undef) rfl rfl (by kernel_rfl) (by kernel_rfl) (by kernel_rfl) (fun _ _ _ h => h) (Or.inr ⟨by rfl, rfl⟩) hS1 ?_
            try simp only [Act.put, List.setIfInBounds_toArray, List.set_cons_zero, List.set_cons_succ]
            refine wpAnyH_takeD (i := 8) (d := (some 29)) (v := undef) rfl rfl (by kernel_rfl) (by kernel_rfl) (by kernel_rfl) (fun _ _ _ h => h) (Or.inr ⟨by rfl, rfl⟩) hS1 ?_
            try simp only [Act.put, List.setIfInBounds_toArray, List.set_cons_zero, List.set_cons_succ]
            refine wpAnyH_takeD (i := 9) (d := (some 30)) (v := undef) rfl rfl (by kernel_rfl) (by kernel_rfl) (by kernel_rfl) (fun _ _ _ h => h) (Or.inr ⟨by rfl, rfl⟩) hS1 ?_
            try simp only [Act.put, List.setIfInBounds_toArray, List.set_cons_zero, List.set_cons_succ]
            refine wpAnyH_takeD (i := 10) (d := (some 31)) (v := undef) rfl rfl (by kernel_rfl) (by kernel_rfl) (by kernel_rfl) (fun _ _ _ h => h) (Or.inr ⟨by rfl, rfl⟩) hS1 ?_
            try simp only [Act.put, List.setIfInBounds_toArray, List.set_cons_zero, List.set_cons_succ]
            refine wpAnyH_takeD (i := 11) (d := (some 32)) (v := undef) rfl rfl (by kernel_rfl) (by kernel_rfl) (by kernel_rfl) (fun _ _ _ h => h) (Or.inr ⟨by rfl, rfl⟩) hS1 ?_
            try simp only [Act.put, List.setIfInBounds_toArray, List.set_cons_zero, List.set_cons_succ]
            refine wpAnyH_takeD (i := 12) (d := (some 33)) (v := undef) rfl rfl (by kernel_rfl) (by kernel_rfl) (by kernel_rfl) (fun _ _ _ h => h) (Or.inr ⟨by rfl, rfl⟩) hS1 ?_
            try simp only [Act.put, List.setIfInBounds_toArray, List.set_cons_zero, List.set_cons_succ]
            refine wpAnyH_takeD (i := 13) (d := (some 34)) (v := undef) rfl rfl (by kernel_rfl) (by kernel_rfl) (by kernel_rfl) (fun _ _ _ h => h) (Or.inr ⟨by rfl, rfl⟩) hS1 ?_
            try simp only [Act.put, List.setIfInBounds_toArray, List.set_cons_zero, List.set_cons_succ]
            refine wpAnyH_takeD (i := 14) (d := (some 35)) (v := undef) rfl rfl (by kernel_rfl) (by kernel_rfl) (by kernel_rfl) (fun _ _ _ h => h) (Or.inr ⟨by rfl, rfl⟩) hS1 ?_
            try simp only [Act.put, List.setIfInBounds_toArray, List.set_cons_zero, List.set_cons_succ]
            refine wpAnyH_takeD (i := 15) (d := (some 36)) (v := undef) rfl rfl (by kernel_rfl) (by kernel_rfl) (by kernel_rfl) (fun _ _ _ h => h) (Or.inr ⟨by rfl, rfl⟩) hS1 ?_
            try simp only [Act.put, List.setIfInBounds_toArray, List.set_cons_zero, List.set_cons_succ]
            refine wpAnyH_takeD (i := 16) (d := (some 37)) (v := undef) rfl rfl (by kernel_rfl) (by kernel_rfl) (by kernel_rfl) (fun _ _ _ h => h) (Or.inr ⟨by rfl, rfl⟩) hS1 ?_
            try simp only [Act.put, List.setIfInBounds_toArray, List.set_cons_zero, List.set_cons_succ]
            refine wpAnyH_takeD (i := 17) (d := (some 38)) (v := undef) rfl rfl (by kernel_rfl) (by kernel_rfl) (by kernel_rfl) (fun _ _ _ h => h) (Or.inr ⟨by rfl, rfl⟩) hS1 ?_
            try simp only [Act.put, List.setIfInBounds_toArray, List.set_cons_zero, List.set_cons_succ]
            refine wpAnyH_takeD (i := 18) (d := (some 39)) (v := undef) rfl rfl (by kernel_rfl) (by kernel_rfl) (by kernel_rfl) (fun _ _ _ h => h) (Or.inr ⟨by rfl, rfl⟩) hS1 ?_
            try simp only [Act.put, List.setIfInBounds_toArray, List.set_cons_zero, List.set_cons_succ]
            refine wpAnyH_takeD (i := 19) (d := (some 40)) (v := (.bool false)) rfl rfl (by kernel_rfl) (by kernel_rfl) (by kernel_rfl) (fun _ _ _ h => h) (Or.inl ⟨by rfl, fun w hw => by obtain ⟨hw0, hw1, hw2, hw3⟩ := hw; go_simp⟩) hS1 ?_
            try simp only [Act.put, List.setIfInBounds_toArray, List.set_cons_zero, List.set_cons_succ]
            refine wpAnyH_done (by kernel_rfl) ?_ _
            go_wp2_with fail
            go_meet
            case rel => exact ⟨rfl, hS1.1⟩
          | true =>
            cases lt with
            | false =>
              refine wp_region_held_drew (S := fun w' => Below wr.heap.size wr w' ∧ w'.cell? ⟨pa, 0, none⟩ = some (.int .u8 p.addr) ∧ w'.cell? ⟨pa, 1, none⟩ = some (.bool p.dead) ∧ w'.cell? ⟨pa, 2, none⟩ = some (.int .i64 p.since) ∧ w'.cell? ⟨ptrAt us bi, 2, none⟩ = some (.int .i64 pb.since)) (by kernel_rfl) ⟨(Below.refl _ _).drew, p0, p1, p2, pb2⟩ (fun hS0 => ?_)
              refine wpAnyH_takeD (i := 0) (d := (some 21)) (v := (.pointer (some ⟨pa, 0, none⟩))) rfl rfl (by kernel_rfl) (by kernel_rfl) (by kernel_rfl) (fun _ _ _ h => h) (Or.inl ⟨by rfl, fun w hw => by obtain ⟨hw0, hw1, hw2, hw3, hw4⟩ := hw; go_simp⟩) hS0 ?_
              try simp only [Act.put, List.setIfInBounds_toArray, List.set_cons_zero, List.set_cons_succ]
              refine wpAnyH_takeD (i := 1) (d := (some 22)) (v := (.pointer (some ⟨pa, 0, none⟩))) rfl rfl (by kernel_rfl) (by kernel_rfl) (by kernel_rfl) (fun _ _ _ h => h) (Or.inl ⟨by rfl, fun w hw => by obtain ⟨hw0, hw1, hw2, hw3, hw4⟩ := hw; go_simp⟩) hS0 ?_
              try simp only [Act.put, List.setIfInBounds_toArray, List.set_cons_zero, List.set_cons_succ]
              refine wpAnyH_takeD (i := 2) (d := (some 23)) (v := (.agg #[.int .u8 p.addr, .bool p.dead, .int .i64 p.since])) rfl rfl (by kernel_rfl) (by kernel_rfl) (by kernel_rfl) (fun _ _ _ h => h) (Or.inl ⟨by rfl, fun w hw => by obtain ⟨hw0, hw1, hw2, hw3, hw4⟩ := hw; go_simp⟩) hS0 ?_
              try simp only [Act.put, List.setIfInBounds_toArray, List.set_cons_zero, List.set_cons_succ]
              refine wpAnyH_takeD (i := 3) (d := (some 24)) (v := (.int .i64 now)) rfl rfl (by kernel_rfl) (by kernel_rfl) (by kernel_rfl) (fun _ _ _ h => h) (Or.inl ⟨by rfl, fun w hw => by obtain ⟨hw0, hw1, hw2, hw3, hw4⟩ := hw; go_simp⟩) hS0 ?_
              try simp only [Act.put, List.setIfInBounds_toArray, List.set_cons_zero, List.set_cons_succ]
              refine wpAnyH_ready (rs := [4]) (by kernel_rfl) (by simp) ?_
              refine AllReadyH.consD (d := (some 25)) rfl rfl (fun K hK => ?_) AllReadyH.nil
              go_simp
              go_at_call 24
              refine (due_any _ p now true HPS.out HNOW.out HDD.out).mono ?_
              rintro e w4 ⟨rfl, hb4⟩
              go_wp2_with fail
              refine hK.out _ _ (next_keep hS0 hb4) (fun hS1 => ?_)
              clear hK K
              refine wpAnyH_takeD (i := 5) (d := (some 26)) (v := (.bool true)) rfl rfl (by kernel_rfl) (by kernel_rfl) (by kernel_rfl) (fun _ _ _ h => h) (Or.inl ⟨by rfl, fun w hw => by obtain ⟨hw0, hw1, hw2, hw3, hw4⟩ := hw; go_simp⟩) hS1 ?_
              try simp only [Act.put, List.setIfInBounds_toArray, List.set_cons_zero, List.set_cons_succ]
              refine wpAnyH_takeD (i := 6) (d := (some 27)) (v := (.pointer (some ⟨ptrAt us bi, 0, none⟩))) rfl rfl (by kernel_rfl) (by kernel_rfl) (by kernel_rfl) (fun _ _ _ h => h) (Or.inl ⟨by rfl, fun w hw => by obtain ⟨hw0, hw1, hw2, hw3, hw4⟩ := hw; go_simp⟩) hS1 ?_
              try simp only [Act.put, List.setIfInBounds_toArray, List.set_cons_zero, List.set_cons_succ]
              refine wpAnyH_takeD (i := 7) (d := (some 28)) (v := (.bool false)) rfl rfl (by kernel_rfl) (by kernel_rfl) (by kernel_rfl) (fun _ _ _ h => h) (Or.inl ⟨by rfl, fun w hw => by obtain ⟨hw0, hw1, hw2, hw3, hw4⟩ := hw; go_simp⟩) hS1 ?_
              try simp only [Act.put, List.setIfInBounds_toArray, List.set_cons_zero, List.set_cons_succ]
              refine wpAnyH_takeD (i := 8) (d := (some 29)) (v := (.bool false)) rfl rfl (by kernel_rfl) (by kernel_rfl) (by kernel_rfl) (fun _ _ _ h => h) (Or.inl ⟨by rfl, fun w hw => by obtain ⟨hw0, hw1, hw2, hw3, hw4⟩ := hw; go_simp⟩) hS1 ?_
              try simp only [Act.put, List.setIfInBounds_toArray, List.set_cons_zero, List.set_cons_succ]
              refine wpAnyH_takeD (i := 9) (d := (some 30)) (v := (.pointer (some ⟨pa, 0, none⟩))) rfl rfl (by kernel_rfl) (by kernel_rfl) (by kernel_rfl) (fun _ _ _ h => h) (Or.inl ⟨by rfl, fun w hw => by obtain ⟨hw0, hw1, hw2, hw3, hw4⟩ := hw; go_simp⟩) hS1 ?_
              try simp only [Act.put, List.setIfInBounds_toArray, List.set_cons_zero, List.set_cons_succ]
              refine wpAnyH_takeD (i := 10) (d := (some 31)) (v := (.pointer (some ⟨pa, 0, none⟩))) rfl rfl (by kernel_rfl) (by kernel_rfl) (by kernel_rfl) (fun _ _ _ h => h) (Or.inl ⟨by rfl, fun w hw => by obtain ⟨hw0, hw1, hw2, hw3, hw4⟩ := hw; go_simp⟩) hS1 ?_
              try simp only [Act.put, List.setIfInBounds_toArray, List.set_cons_zero, List.set_cons_succ]
              refine wpAnyH_takeD (i := 11) (d := (some 32)) (v := (.pointer (some ⟨pa, 2, none⟩))) rfl rfl (by kernel_rfl) (by kernel_rfl) (by kernel_rfl) (fun _ _ _ h => h) (Or.inl ⟨by rfl, fun w hw => by obtain ⟨hw0, hw1, hw2, hw3, hw4⟩ := hw; go_simp⟩) hS1 ?_
              try simp only [Act.put, List.setIfInBounds_toArray, List.set_cons_zero, List.set_cons_succ]
              refine wpAnyH_takeD (i := 12) (d := (some 33)) (v := (.int .i64 p.since)) rfl rfl (by kernel_rfl) (by kernel_rfl) (by kernel_rfl) (fun _ _ _ h => h) (Or.inl ⟨by rfl, fun w hw => by obtain ⟨hw0, hw1, hw2, hw3, hw4⟩ := hw; go_simp⟩) hS1 ?_
              try simp only [Act.put, List.setIfInBounds_toArray, List.set_cons_zero, List.set_cons_succ]
              refine wpAnyH_takeD (i := 13) (d := (some 34)) (v := (.pointer (some ⟨ptrAt us bi, 0, none⟩))) rfl rfl (by kernel_rfl) (by kernel_rfl) (by kernel_rfl) (fun _ _ _ h => h) (Or.inl ⟨by rfl, fun w hw => by obtain ⟨hw0, hw1, hw2, hw3, hw4⟩ := hw; go_simp⟩) hS1 ?_
              try simp only [Act.put, List.setIfInBounds_toArray, List.set_cons_zero, List.set_cons_succ]
              refine wpAnyH_takeD (i := 14) (d := (some 35)) (v := (.pointer (some ⟨ptrAt us bi, 0, none⟩))) rfl rfl (by kernel_rfl) (by kernel_rfl) (by kernel_rfl) (fun _ _ _ h => h) (Or.inl ⟨by rfl, fun w hw => by obtain ⟨hw0, hw1, hw2, hw3, hw4⟩ := hw; go_simp⟩) hS1 ?_
              try simp only [Act.put, List.setIfInBounds_toArray, List.set_cons_zero, List.set_cons_succ]
              refine wpAnyH_takeD (i := 15) (d := (some 36)) (v := (.pointer (some ⟨ptrAt us bi, 2, none⟩))) rfl rfl (by kernel_rfl) (by kernel_rfl) (by kernel_rfl) (fun _ _ _ h => h) (Or.inl ⟨by rfl, fun w hw => by obtain ⟨hw0, hw1, hw2, hw3, hw4⟩ := hw; go_simp⟩) hS1 ?_
              try simp only [Act.put, List.setIfInBounds_toArray, List.set_cons_zero, List.set_cons_succ]
              refine wpAnyH_takeD (i := 16) (d := (some 37)) (v := (.int .i64 pb.since)) rfl rfl (by kernel_rfl) (by kernel_rfl) (by kernel_rfl) (fun _ _ _ h => h) (Or.inl ⟨by rfl, fun w hw => by obtain ⟨hw0, hw1, hw2, hw3, hw4⟩ := hw; go_simp⟩) hS1 ?_
              try simp only [Act.put, List.setIfInBounds_toArray, List.set_cons_zero, List.set_cons_succ]
              refine wpAnyH_takeD (i := 17) (d := (some 38)) (v := (.bool false)) rfl rfl (by kernel_rfl) (by kernel_rfl) (by kernel_rfl) (fun _ _ _ h => h) (Or.inl ⟨by rfl, fun w hw => by obtain ⟨hw0, hw1, hw2, hw3, hw4⟩ := hw; go_simp⟩) hS1 ?_
              try simp only [Act.put, List.setIfInBounds_toArray, List.set_cons_zero, List.set_cons_succ]
              refine wpAnyH_takeD (i := 18) (d := (some 39)) (v := (.bool false)) rfl rfl (by kernel_rfl) (by kernel_rfl) (by kernel_rfl) (fun _ _ _ h => h) (Or.inl ⟨by rfl, fun w hw => by obtain ⟨hw0, hw1, hw2, hw3, hw4⟩ := hw; go_simp⟩) hS1 ?_
              try simp only [Act.put, List.setIfInBounds_toArray, List.set_cons_zero, List.set_cons_succ]
              refine wpAnyH_takeD (i := 19) (d := (some 40)) (v := (.bool false)) rfl rfl (by kernel_rfl) (by kernel_rfl) (by kernel_rfl) (fun _ _ _ h => h) (Or.inl ⟨by rfl, fun w hw => by obtain ⟨hw0, hw1, hw2, hw3, hw4⟩ := hw; go_simp⟩) hS1 ?_
              try simp only [Act.put, List.setIfInBounds_toArray, List.set_cons_zero, List.set_cons_succ]
              refine wpAnyH_done (by kernel_rfl) ?_ _
              go_wp2_with fail
              go_meet
              case rel => exact ⟨rfl, hS1.1⟩
            | true =>
              refine wp_region_held_drew (S := fun w' => Below wr.heap.size wr w' ∧ w'.cell? ⟨pa, 0, none⟩ = some (.int .u8 p.addr) ∧ w'.cell? ⟨pa, 1, none⟩ = some (.bool p.dead) ∧ w'.cell? ⟨pa, 2, none⟩ = some (.int .i64 p.since) ∧ w'.cell? ⟨ptrAt us bi, 2, none⟩ = some (.int .i64 pb.since)) (by kernel_rfl) ⟨(Below.refl _ _).drew, p0, p1, p2, pb2⟩ (fun hS0 => ?_)
              refine wpAnyH_takeD (i := 0) (d := (some 21)) (v := (.pointer (some ⟨pa, 0, none⟩))) rfl rfl (by kernel_rfl) (by kernel_rfl) (by kernel_rfl) (fun _ _ _ h => h) (Or.inl ⟨by rfl, fun w hw => by obtain ⟨hw0, hw1, hw2, hw3, hw4⟩ := hw; go_simp⟩) hS0 ?_
              try simp only [Act.put, List.setIfInBounds_toArray, List.set_cons_zero, List.set_cons_succ]
              refine wpAnyH_takeD (i := 1) (d := (some 22)) (v := (.pointer (some ⟨pa, 0, none⟩))) rfl rfl (by kernel_rfl) (by kernel_rfl) (by kernel_rfl) (fun _ _ _ h => h) (Or.inl ⟨by rfl, fun w hw => by obtain ⟨hw0, hw1, hw2, hw3, hw4⟩ := hw; go_simp⟩) hS0 ?_
              try simp only [Act.put, List.setIfInBounds_toArray, List.set_cons_zero, List.set_cons_succ]
              refine wpAnyH_takeD (i := 2) (d := (some 23)) (v := (.agg #[.int .u8 p.addr, .bool p.dead, .int .i64 p.since])) rfl rfl (by kernel_rfl) (by kernel_rfl) (by kernel_rfl) (fun _ _ _ h => h) (Or.inl ⟨by rfl, fun w hw => by obtain ⟨hw0, hw1, hw2, hw3, hw4⟩ := hw; go_simp⟩) hS0 ?_
              try simp only [Act.put, List.setIfInBounds_toArray, List.set_cons_zero, List.set_cons_succ]
              refine wpAnyH_takeD (i := 3) (d := (some 24)) (v := (.int .i64 now)) rfl rfl (by kernel_rfl) (by kernel_rfl) (by kernel_rfl) (fun _ _ _ h => h) (Or.inl ⟨by rfl, fun w hw => by obtain ⟨hw0, hw1, hw2, hw3, hw4⟩ := hw; go_simp⟩) hS0 ?_
              try simp only [Act.put, List.setIfInBounds_toArray, List.set_cons_zero, List.set_cons_succ]
              refine wpAnyH_ready (rs := [4]) (by kernel_rfl) (by simp) ?_
              refine AllReadyH.consD (d := (some 25)) rfl rfl (fun K hK => ?_) AllReadyH.nil
              go_simp
              go_at_call 24
              refine (due_any _ p now true HPS.out HNOW.out HDD.out).mono ?_
              rintro e w4 ⟨rfl, hb4⟩
              go_wp2_with fail
              refine hK.out _ _ (next_keep hS0 hb4) (fun hS1 => ?_)
              clear hK K
              refine wpAnyH_takeD (i := 5) (d := (some 26)) (v := (.bool true)) rfl rfl (by kernel_rfl) (by kernel_rfl) (by kernel_rfl) (fun _ _ _ h => h) (Or.inl ⟨by rfl, fun w hw => by obtain ⟨hw0, hw1, hw2, hw3, hw4⟩ := hw; go_simp⟩) hS1 ?_
              try simp only [Act.put, List.setIfInBounds_toArray, List.set_cons_zero, List.set_cons_succ]
              refine wpAnyH_takeD (i := 6) (d := (some 27)) (v := (.pointer (some ⟨ptrAt us bi, 0, none⟩))) rfl rfl (by kernel_rfl) (by kernel_rfl) (by kernel_rfl) (fun _ _ _ h => h) (Or.inl ⟨by rfl, fun w hw => by obtain ⟨hw0, hw1, hw2, hw3, hw4⟩ := hw; go_simp⟩) hS1 ?_
              try simp only [Act.put, List.setIfInBounds_toArray, List.set_cons_zero, List.set_cons_succ]
              refine wpAnyH_takeD (i := 7) (d := (some 28)) (v := (.bool false)) rfl rfl (by kernel_rfl) (by kernel_rfl) (by kernel_rfl) (fun _ _ _ h => h) (Or.inl ⟨by rfl, fun w hw => by obtain ⟨hw0, hw1, hw2, hw3, hw4⟩ := hw; go_simp⟩) hS1 ?_
              try simp only [Act.put, List.setIfInBounds_toArray, List.set_cons_zero, List.set_cons_succ]
              refine wpAnyH_takeD (i := 8) (d := (some 29)) (v := (.bool false)) rfl rfl (by kernel_rfl) (by kernel_rfl) (by kernel_rfl) (fun _ _ _ h => h) (Or.inl ⟨by rfl, fun w hw => by obtain ⟨hw0, hw1, hw2, hw3, hw4⟩ := hw; go_simp⟩) hS1 ?_
              try simp only [Act.put, List.setIfInBounds_toArray, List.set_cons_zero, List.set_cons_succ]
              refine wpAnyH_takeD (i := 9) (d := (some 30)) (v := (.pointer (some ⟨pa, 0, none⟩))) rfl rfl (by kernel_rfl) (by kernel_rfl) (by kernel_rfl) (fun _ _ _ h => h) (Or.inl ⟨by rfl, fun w hw => by obtain ⟨hw0, hw1, hw2, hw3, hw4⟩ := hw; go_simp⟩) hS1 ?_
              try simp only [Act.put, List.setIfInBounds_toArray, List.set_cons_zero, List.set_cons_succ]
              refine wpAnyH_takeD (i := 10) (d := (some 31)) (v := (.pointer (some ⟨pa, 0, none⟩))) rfl rfl (by kernel_rfl) (by kernel_rfl) (by kernel_rfl) (fun _ _ _ h => h) (Or.inl ⟨by rfl, fun w hw => by obtain ⟨hw0, hw1, hw2, hw3, hw4⟩ := hw; go_simp⟩) hS1 ?_
              try simp only [Act.put, List.setIfInBounds_toArray, List.set_cons_zero, List.set_cons_succ]
              refine wpAnyH_takeD (i := 11) (d := (some 32)) (v := (.pointer (some ⟨pa, 2, none⟩))) rfl rfl (by kernel_rfl) (by kernel_rfl) (by kernel_rfl) (fun _ _ _ h => h) (Or.inl ⟨by rfl, fun w hw => by obtain ⟨hw0, hw1, hw2, hw3, hw4⟩ := hw; go_simp⟩) hS1 ?_
              try simp only [Act.put, List.setIfInBounds_toArray, List.set_cons_zero, List.set_cons_succ]
              refine wpAnyH_takeD (i := 12) (d := (some 33)) (v := (.int .i64 p.since)) rfl rfl (by kernel_rfl) (by kernel_rfl) (by kernel_rfl) (fun _ _ _ h => h) (Or.inl ⟨by rfl, fun w hw => by obtain ⟨hw0, hw1, hw2, hw3, hw4⟩ := hw; go_simp⟩) hS1 ?_
              try simp only [Act.put, List.setIfInBounds_toArray, List.set_cons_zero, List.set_cons_succ]
              refine wpAnyH_takeD (i := 13) (d := (some 34)) (v := (.pointer (some ⟨ptrAt us bi, 0, none⟩))) rfl rfl (by kernel_rfl) (by kernel_rfl) (by kernel_rfl) (fun _ _ _ h => h) (Or.inl ⟨by rfl, fun w hw => by obtain ⟨hw0, hw1, hw2, hw3, hw4⟩ := hw; go_simp⟩) hS1 ?_
              try simp only [Act.put, List.setIfInBounds_toArray, List.set_cons_zero, List.set_cons_succ]
              refine wpAnyH_takeD (i := 14) (d := (some 35)) (v := (.pointer (some ⟨ptrAt us bi, 0, none⟩))) rfl rfl (by kernel_rfl) (by kernel_rfl) (by kernel_rfl) (fun _ _ _ h => h) (Or.inl ⟨by rfl, fun w hw => by obtain ⟨hw0, hw1, hw2, hw3, hw4⟩ := hw; go_simp⟩) hS1 ?_
              try simp only [Act.put, List.setIfInBounds_toArray, List.set_cons_zero, List.set_cons_succ]
              refine wpAnyH_takeD (i := 15) (d := (some 36)) (v := (.pointer (some ⟨ptrAt us bi, 2, none⟩))) rfl rfl (by kernel_rfl) (by kernel_rfl) (by kernel_rfl) (fun _ _ _ h => h) (Or.inl ⟨by rfl, fun w hw => by obtain ⟨hw0, hw1, hw2, hw3, hw4⟩ := hw; go_simp⟩) hS1 ?_
              try simp only [Act.put, List.setIfInBounds_toArray, List.set_cons_zero, List.set_cons_succ]
              refine wpAnyH_takeD (i := 16) (d := (some 37)) (v := (.int .i64 pb.since)) rfl rfl (by kernel_rfl) (by kernel_rfl) (by kernel_rfl) (fun _ _ _ h => h) (Or.inl ⟨by rfl, fun w hw => by obtain ⟨hw0, hw1, hw2, hw3, hw4⟩ := hw; go_simp⟩) hS1 ?_
              try simp only [Act.put, List.setIfInBounds_toArray, List.set_cons_zero, List.set_cons_succ]
              refine wpAnyH_takeD (i := 17) (d := (some 38)) (v := (.bool true)) rfl rfl (by kernel_rfl) (by kernel_rfl) (by kernel_rfl) (fun _ _ _ h => h) (Or.inl ⟨by rfl, fun w hw => by obtain ⟨hw0, hw1, hw2, hw3, hw4⟩ := hw; go_simp⟩) hS1 ?_
              try simp only [Act.put, List.setIfInBounds_toArray, List.set_cons_zero, List.set_cons_succ]
              refine wpAnyH_takeD (i := 18) (d := (some 39)) (v := (.bool true)) rfl rfl (by kernel_rfl) (by kernel_rfl) (by kernel_rfl) (fun _ _ _ h => h) (Or.inl ⟨by rfl, fun w hw => by obtain ⟨hw0, hw1, hw2, hw3, hw4⟩ := hw; go_simp⟩) hS1 ?_
              try simp only [Act.put, List.setIfInBounds_toArray, List.set_cons_zero, List.set_cons_succ]
              refine wpAnyH_takeD (i := 19) (d := (some 40)) (v := (.bool true)) rfl rfl (by kernel_rfl) (by kernel_rfl) (by kernel_rfl) (fun _ _ _ h => h) (Or.inl ⟨by rfl, fun w hw => by obtain ⟨hw0, hw1, hw2, hw3, hw4⟩ := hw; go_simp⟩) hS1 ?_
              try simp only [Act.put, List.setIfInBounds_toArray, List.set_cons_zero, List.set_cons_succ]
              refine wpAnyH_done (by kernel_rfl) ?_ _
              go_wp2_with fail
              go_meet
              case rel => exact ⟨rfl, hS1.1⟩
      case rest =>
        obtain ⟨rfl, hbc⟩ := hcut
        have HBC := Lib.hid hbc
        have hnx : bestF P.row now (k + 1) = if rs = true then some k else bf := by rw [HBS.out, HDD.out, HBF.out, HRS.out]
        have HNX := Lib.hid hnx
        clear hbc hnx p0 p1 p2 hcell
        cases rs with
        | true =>
          go_wp2_with fail
          go_roundw
          case rel => exact ⟨k + 1, by omega, by go_num, by rw [HNX.out, if_pos rfl]; unfold bestV; simp only [HUD.out], HBR.out.trans (HBC.out.mono HBR.out.size)⟩
          case measure => simp [intOf]; omega
        | false =>
          go_wp2_with fail
          go_roundw
          case rel => exact ⟨k + 1, by omega, by go_num, by rw [HNX.out, if_neg (by simp)], HBR.out.trans (HBC.out.mono HBR.out.size)⟩
          case measure => simp [intOf]; omega
    · obtain rfl : k = P.row.length := by omega
      have HFF := HF.out
      unfold PS.next at HFF
      cases hbf : bestF P.row now P.row.length with
      | some bi =>
        rw [hbf] at HFF
        simp only [Prod.mk.injEq] at HFF
        obtain ⟨rfl, rfl, rfl⟩ := HFF
        obtain ⟨hb1, hb2⟩ := best_lt P.row now _ bi hbf
        obtain ⟨ab, gr2, c2', pb, hab, hpb, hpeb, -⟩ := HI.out.at hb2
        have hub : ptrAt us bi = ab := by unfold ptrAt; rw [List.getD, hab]; rfl
        subst hub
        have pb0 := blk_cell hpeb 0
        have pb2 := blk_cell hpeb 2
        have pf2 := blk_frozen hpeb 2
        simp at pb0 pb2
        have had : addrAt P.row bi = pb.addr := by unfold addrAt; rw [hpb]; rfl
        have HAD := Lib.hid had
        have HAB := Lib.hid hab
        have HPB := Lib.hid hpb
        have HPE := Lib.hid hpeb
        unfold bestV
        clear had hab hpb hpeb hbf HF hbr
        go_wp2_with fail
        go_ret2
        have hw := write_end (f := fun p => { p with since := now }) HI.out HBR.out HAB.out HPB.out (grown_set (grown_refl _ _) 2 (.int .i64 now)) (by have := blk_set HPE.out 2 (.int .i64 now); simpa [PeerAt] using this) HNOW.out
        exact ⟨by rw [HAD.out]; rfl, hw.1, hw.2⟩
      | none =>
        rw [hbf] at HFF
        have HFF' := Lib.hid HFF
        have g0' := blk_cell HI.out.blk 0
        have g1' := blk_cell HI.out.blk 1
        have gf1 := blk_frozen HI.out.blk 1
        simp at g0' g1'
        have htn := HI.out.tn
        have hgl := HI.out.lt
        unfold bestV
        clear hbf HF HFF hbr g0
        go_wp2_with fail
        go_loopw [58] (fun i w' => ∃ j : Nat, j ≤ P.row.length ∧ i = .int .i64 j ∧ (∃ m, w' = wr.drewN m) ∧ aliveF P.row P.turn P.row.length 0 = aliveF P.row P.turn (P.row.length - j) j) (fun i _ => P.row.length - (intOf i).toNat)
        case atStart => exact ⟨0, Nat.zero_le _, rfl, ⟨0, rfl⟩, rfl⟩
        case round =>
          obtain ⟨j, hj, rfl, ⟨m, rfl⟩, hal⟩ := hrel
          have HAL := Lib.hid hal
          clear hal
          by_cases hjl : j < P.row.length
          · obtain ⟨at', hat, hatl⟩ : ∃ x : Nat, x = (P.turn + j) % P.row.length ∧ x < P.row.length := ⟨_, rfl, Nat.mod_lt _ (by omega)⟩
            obtain ⟨ab, gr2, c2', pb, hab, hpb, hpeb, he2, hcc1, hcc2, hcell2⟩ := HI.out.at hatl
            cases he2
            have pb0 := blk_cell hpeb 0
            have pb1 := blk_cell hpeb 1
            simp at pb0 pb1
            have hsum : IntKind.i64.wrap ((P.turn : Int) + (j : Int)) = (P.turn : Int) + (j : Int) := IntWalk.i64_in _ (by omega)
            have hmod : ((P.turn : Int) + (j : Int)).tmod (P.row.length : Int) = (at' : Int) := by
              rw [hat]
              have : ((P.turn : Int) + (j : Int)) = ((P.turn + j : Nat) : Int) := by omega
              rw [this]
              exact Int.ofNat_tmod _ _
            have hmod2 : ((P.turn : Int) + (j : Int)) % (P.row.length : Int) = (at' : Int) := by
              rw [hat]
              have : ((P.turn : Int) + (j : Int)) = ((P.turn + j : Nat) : Int) := by omega
              rw [this]
              exact (Int.natCast_emod _ _).symm
            have hne : P.row ≠ [] := by intro h; rw [h] at hjl; simp at hjl
            have hstep : aliveF P.row P.turn (P.row.length - j) j = if pb.dead = false then some j else aliveF P.row P.turn (P.row.length - (j + 1)) (j + 1) := by
              obtain ⟨d, hd⟩ : ∃ d, P.row.length - j = d + 1 := ⟨P.row.length - j - 1, by omega⟩
              have hd2 : P.row.length - (j + 1) = d := by omega
              rw [hd, hd2]
              simp only [aliveF, ← hat, hpb, Option.map_some, Option.getD_some]
            have had : addrAt P.row at' = pb.addr := by unfold addrAt; rw [hpb]; rfl
            have HAT := Lib.hid hat
            have HSTEP := Lib.hid hstep
            have HAD := Lib.hid had
            have hsm : 0 ≤ (P.turn : Int) + (j : Int) := by omega
            obtain ⟨dd, hdd⟩ : ∃ dd, pb.dead = dd := ⟨_, rfl⟩
            rw [hdd] at pb1
            have HDD := Lib.hid hdd
            clear hat hstep had hab hpb hpeb hdd
            go_wp2_with fail
            go_quiet (fail)
            clear hsum hmod hmod2 hsm
            cases dd with
            | false =>
              have hA : aliveF P.row P.turn P.row.length 0 = some j := by rw [HAL.out, HSTEP.out, if_pos HDD.out]
              have hff := HFF'.out
              rw [hA] at hff
              simp only [Prod.mk.injEq, ← HAT.out] at hff
              have HFF2 := Lib.hid hff
              clear hA hff HFF'
              go_wp2_with fail
              go_ret2
              obtain ⟨rfl, rfl, rfl⟩ := HFF2.out
              have hw := turn_end (t := at' + 1) (m := 0) HI.out HBR.out (by omega)
              refine ⟨by rw [HAD.out]; rfl, ?_, ?_⟩
              · exact (turn_end (t := at' + 1) HI.out HBR.out (by omega)).1
              · exact (turn_end (t := at' + 1) HI.out HBR.out (by omega)).2
            | true =>
              go_wp2_with fail
              go_roundw
              case rel => exact ⟨j + 1, by omega, by go_num, ⟨_, rfl⟩, by rw [HAL.out, HSTEP.out, if_neg (by rw [HDD.out]; simp)]⟩
              case measure => simp [intOf]; omega
          · obtain rfl : j = P.row.length := by omega
            have hA : aliveF P.row P.turn P.row.length 0 = none := by rw [HAL.out, Nat.sub_self]; rfl
            have hff := HFF'.out
            rw [hA] at hff
            simp only [Prod.mk.injEq] at hff
            have HFF2 := Lib.hid hff
            clear hA hff HFF'
            go_wp2_with fail
            go_ret2
            obtain ⟨rfl, rfl, rfl⟩ := HFF2.out
            exact ⟨rfl, (KeptU.of_below HBR.out).trans (KeptU.of_below (below_drewN (Below.refl _ _) _)), HI.out.below (below_drewN (Below.refl _ _) _)⟩
theorem poll_next (w : World) (B g : Nat) (P P' : PS) (now a : Int) (b : Bool) (h : PollAt w B g P) (hnow : I64 now) (hF : P.next now = (a, b, P')) :
    Calls Try.prog 13 #[.pointer (some ⟨g, 0, none⟩), .int .i64 now] w (NextEnd w B g a b P') := by
  obtain ⟨v, us, hin⟩ := h
  exact (poll_nextU w B g P P' now a b v us hin hnow hF).mono fun e w' ⟨h1, h2, h3⟩ => ⟨h1, h2.kept hin, v, us, h3⟩
end Go.Proofs.Ytmkbleeideddkaa
