/- What the calls leave as it was, in the plain model of a master. -/
import Derived.Test.YtdgbmiobfehpdaaMa
namespace Go.Proofs.Ytdgbmiobfehpdaa
theorem send_keeps {M M1 : MS} {b : List UInt8} {n : Int} (h : M.sendF b = (n, M1)) : M1.addr = M.addr ∧ M1.epoch = M.epoch := by
  unfold MS.sendF at h
  split at h
  · cases h; exact ⟨rfl, rfl⟩
  · split at h
    · cases h; exact ⟨rfl, rfl⟩
    · split at h
      · cases h; exact ⟨rfl, rfl⟩
      · cases h; exact ⟨rfl, rfl⟩
theorem reply_keeps (M : MS) (f : FR) : (M.replyF f).2.addr = M.addr ∧ (M.replyF f).2.epoch = M.epoch := by
  have a : (M.acked f).addr = M.addr ∧ (M.acked f).epoch = M.epoch := by unfold MS.acked; split <;> exact ⟨rfl, rfl⟩
  unfold MS.replyF
  split
  · exact a
  · exact a
theorem heard_keeps {M M1 : MS} {f : FR} {b : List UInt8} {ok : Bool} (h : M.heardF f = (b, ok, M1)) : M1.addr = M.addr ∧ M.epoch ≤ M1.epoch ∧ M1.epoch ≤ M.epoch + 1 := by
  unfold MS.heardF at h
  split at h
  · cases h; exact ⟨rfl, by omega, by omega⟩
  · split at h
    · split at h
      · cases h; exact ⟨rfl, by omega, by omega⟩
      · cases h
        exact ⟨rfl, by show M.epoch ≤ M.epoch + 1; omega, Int.le_refl _⟩
    · split at h
      · cases h
        exact ⟨rfl, Int.le_refl _, by show M.epoch ≤ M.epoch + 1; omega⟩
      · split at h
        · cases h
          exact ⟨rfl, Int.le_refl _, by show M.epoch ≤ M.epoch + 1; omega⟩
        · cases h
          have := reply_keeps { M with misses := 0 } f
          exact ⟨this.1, by rw [this.2]; exact Int.le_refl _, by rw [this.2]; show M.epoch ≤ M.epoch + 1; omega⟩
theorem missed_keeps {M M1 : MS} {d : Bool} (h : M.missedF = (d, M1)) : M1.addr = M.addr ∧ M1.epoch = M.epoch := by
  unfold MS.missedF at h
  split at h
  · cases h; exact ⟨rfl, rfl⟩
  · cases h; exact ⟨rfl, rfl⟩
/-- What is not for a master changes nothing. -/
theorem heard_strange {M : MS} {f : FR} (h : ¬ (f.addr = M.addr ∧ (f.kind = 4 ∨ f.kind = 5))) : M.heardF f = ([], false, M) := by
  unfold MS.heardF
  rw [if_pos]
  by_cases e : f.addr = M.addr
  · refine .inr ⟨fun h4 => h ⟨e, .inl h4⟩, fun h5 => h ⟨e, .inr h5⟩⟩
  · exact .inl e
theorem nextF_len {M : MS} (h : M.Ok) : M.nextF.b.length ≤ 24 := by
  unfold MS.nextF
  split
  · simp
  · split
    · simp
    · rename_i b q hq
      exact (h.rows b (by rw [hq]; simp)).2
end Go.Proofs.Ytdgbmiobfehpdaa
