/- When just so many bytes went as have to, the new ones fit: plain laws of books. Conditions: none. -/
import Derived.Test.YteadclkpoikobaaL3
namespace Go.Proofs.Yteadclkpoikobaa

theorem lessE_zero {L : List Ln} {t : ByteArray} {v : Int} (hq : okQ t v = true) (h : v ≤ ofL L t) : lessE L t v = 0 := by
  unfold lessE; rw [if_neg (by simp [hq]), if_neg (by omega)]
theorem lessL_zero {L : List Ln} {t : ByteArray} {v : Int} (hq : okQ t v = true) (h : v ≤ ofL L t) : lessL L t v = withL L t (ofL L t - v) := by
  unfold lessL; rw [if_pos (lessE_zero hq h)]
theorem addE_iff {all share : Int} {L : List Ln} {t : ByteArray} {v : Int} (hq : okQ t v = true) : addE all share L t v = 0 ↔ v ≤ share - ofL L t ∧ v ≤ all - sumL L := by
  unfold addE
  rw [if_neg (by simp [hq])]
  split <;> constructor <;> intro h <;> first | omega | (cases h)

/-- what over tells, where it tells -/
structure Ov (all share : Int) (L : List Ln) (t : ByteArray) (v own any_ : Int) : Prop where
  own0 : 0 ≤ own
  any0 : 0 ≤ any_
  ownB : own ≤ 1125899906842624
  anyB : any_ ≤ 2251799813685248
  q : okQ t v = true
  qo : okQ t own = true
  le : v ≤ share
  ofo : own ≤ ofL L t
  fits : addE all share L t v = 0 ↔ own = 0 ∧ any_ = 0
  less : lessE L t own = 0
  then_ : any_ = 0 → addE all share (lessL L t own) t v = 0
  sum : any_ = 0 ∧ sumL (lessL L t own) + v ≤ all ∨ 0 < any_ ∧ sumL (lessL L t own) + v - all = any_
  ofl : ofL (lessL L t own) t + v ≤ share
theorem over_ov {all share : Int} {L : List Ln} {t : ByteArray} {v : Int} (h : Inv all share L) (ht : t.size ≤ 200) (he : (overR all share L t v).2.2 = 0) :
    Ov all share L t v (overR all share L t v).1 (overR all share L t v).2.1 := by
  have hq : okQ t v = true := by
    by_cases hq : okQ t v = false
    · unfold overR at he; rw [if_pos hq] at he; cases he
    · simpa using hq
  have hv := (okQ_iff t v).1 hq
  have hle : v ≤ share := by
    by_cases hl : v > share
    · unfold overR at he; rw [if_neg (by simp [hq]), if_pos hl] at he; cases he
    · omega
  have e : overR all share L t v = (overOwn share L t v, overAny all share L t v, 0) := by
    unfold overR; rw [if_neg (by simp [hq]), if_neg (by omega)]
  rw [e]
  have o0 := ofL_rng h t
  have s0 := h.sum0
  have s1 := h.sum
  have s2 := h.share1
  have s3 := h.all1
  have l0 := ofL_le_sum (fun x hx => (h.rng x hx).1) t
  generalize hown : overOwn share L t v = own
  generalize hany : overAny all share L t v = any_
  have a1 : own = 0 ∧ ofL L t + v ≤ share ∨ 0 < own ∧ own = ofL L t + v - share := by
    unfold overOwn at hown; split at hown <;> omega
  have a2 : any_ = 0 ∧ sumL L - own + v ≤ all ∨ 0 < any_ ∧ any_ = sumL L - own + v - all := by
    unfold overAny at hany; rw [hown] at hany; split at hany <;> omega
  have hqo : okQ t own = true := (okQ_iff t own).2 ⟨ht, by omega, by omega⟩
  have hofo : own ≤ ofL L t := by omega
  have e2 := lessL_zero hqo hofo
  have e3 : sumL (lessL L t own) = sumL L - own := by rw [e2, sumL_with _ _ _ h.nodup]; omega
  have e4 : ofL (lessL L t own) t = ofL L t - own := by rw [e2, ofL_with, if_pos rfl]
  exact ⟨by show 0 ≤ own; omega, by show 0 ≤ any_; omega, by show own ≤ _; omega, by show any_ ≤ _; omega, hq, hqo, hle, hofo, by rw [addE_iff hq]; show _ ↔ own = 0 ∧ any_ = 0; constructor <;> intro _ <;> omega, lessE_zero hqo hofo,
    fun (h0 : any_ = 0) => by show addE all share (lessL L t own) t v = 0; rw [addE_iff hq, e3, e4]; omega, by show any_ = 0 ∧ sumL (lessL L t own) + v ≤ all ∨ 0 < any_ ∧ sumL (lessL L t own) + v - all = any_; rw [e3]; omega, by show ofL (lessL L t own) t + v ≤ share; rw [e4]; omega⟩

/-- what the loop over the tenants keeps: c have to go still -/
structure MI (all share : Int) (L : List Ln) (t : ByteArray) (v : Int) (T : List ByteArray) (k : Nat) (c : Int) (M : List Ln) : Prop where
  inv : Inv all share M
  c0 : 0 ≤ c
  cB : c ≤ 2251799813685248
  of_ : ofL M t + v ≤ share
  sum : c = 0 ∧ sumL M + v ≤ all ∨ 0 < c ∧ sumL M + v - all = c
  gone : 0 < c → sumL M = sumL L - sumT L (T.take k)
  rest : ∀ i (h : i < T.length), k ≤ i → ofL M T[i] = ofL L T[i]

theorem MI.start {all share : Int} {L : List Ln} {t : ByteArray} {v own any_ : Int} (h : Ov all share L t v own any_) (hi : Inv all share L) (T : List ByteArray) : MI all share (lessL L t own) t v T 0 any_ (lessL L t own) :=
  ⟨hi.less t own, h.any0, h.anyB, h.ofl, h.sum, fun _ => by simp [sumT], fun _ _ _ => rfl⟩
theorem MI.notfit {all share : Int} {L M : List Ln} {t : ByteArray} {v c : Int} {T : List ByteArray} {k : Nat} (h : MI all share L t v T k c M) (hq : okQ t v = true) (hc : 0 < c) : ¬ addE all share M t v = 0 := by
  rw [addE_iff hq]
  rcases h.sum with h | h <;> omega
theorem MI.step {all share : Int} {L M : List Ln} {t : ByteArray} {v c m : Int} {T : List ByteArray} {k : Nat} (h : MI all share L t v T k c M) (hT : T.Nodup) (hk : k < T.length) (hs : T[k].size ≤ 200) (hm : m = min c (ofL M T[k])) :
    okQ T[k] m = true ∧ lessE M T[k] m = 0 ∧ MI all share L t v T (k + 1) (c - m) (lessL M T[k] m) := by
  have o0 := ofL_rng h.inv T[k]
  have c0 := h.c0
  have s1 := h.inv.share1
  have s2 := h.inv.all1
  have hq : okQ T[k] m = true := (okQ_iff _ _).2 ⟨hs, by omega, by omega⟩
  have hle : m ≤ ofL M T[k] := by omega
  have e2 := lessL_zero hq hle
  have e3 : sumL (lessL M T[k] m) = sumL M - m := by rw [e2, sumL_with _ _ _ h.inv.nodup]; omega
  refine ⟨hq, lessE_zero hq hle, h.inv.less _ _, by omega, by have := h.cB; omega, ?_, ?_, fun hc => ?_, fun i hi hki => ?_⟩
  · have := h.of_
    rw [e2, ofL_with]
    split
    · rename_i e; rw [← e] at this; omega
    · exact this
  · rw [e3]; have := h.sum; omega
  · have e4 : m = ofL M T[k] := by omega
    have e5 := h.rest k hk (Nat.le_refl _)
    rw [e3, h.gone (by omega), sumT_take L T k hk]; omega
  · rw [e2, ofL_with, if_neg, h.rest i hi (by omega)]
    exact List.pairwise_iff_getElem.1 hT k i hk hi (by omega)
theorem MI.fin {all share : Int} {L M : List Ln} {t : ByteArray} {v c : Int} {T : List ByteArray} (h : MI all share L t v T T.length c M) (hi : Inv all share L) (hT : IsTen T L) (hq : okQ t v = true) (hv : v ≤ share) : c = 0 ∧ addE all share M t v = 0 := by
  have hc : c = 0 := by
    have c0 := h.c0
    by_cases hc : 0 < c
    · have := h.gone hc
      rw [List.take_length, hT.sum hi.nodup] at this
      have h2 := h.sum
      have := hi.share1
      omega
    · omega
  refine ⟨hc, ?_⟩
  rw [addE_iff hq]
  have h1 := h.of_
  have h2 := h.sum
  omega
end Go.Proofs.Yteadclkpoikobaa
