/- Of any many Frees of one hold just one tells true; the others of that key stay held: the walk of PinOnce. Conditions: none. -/
import Derived.Test.YtklnbfelcpnbeaaN
import Derived.Deep.AppendLies
import Derived.OwnWalk
namespace Go.Proofs.Ytklnbfelcpnbeaa
open Go.RowKit Go.Maps Go.MuLone

theorem info26 : (Try.prog.info? 26).map (fun i => (i.zero, i.size, i.bytes)) = some (some (.pointer none), 1, 8) := by kernel_rfl
/-- the holds' blocks as pointers -/
def hps (H : List Ho) : List Value := H.map fun h => .pointer (some ⟨h.1, 0, none⟩)
theorem hps_append (A B : List Ho) : hps (A ++ B) = hps A ++ hps B := by simp [hps]
theorem hps_set (H : List Ho) (i : Nat) (hi : i < H.length) (b : Bool) : hps (H.set i (H[i].1, H[i].2.1, b)) = hps H := by
  unfold hps
  refine List.ext_getElem (by simp) (fun j h1 h2 => ?_)
  simp only [List.getElem_map]
  by_cases e : i = j
  · subst e; simp
  · rw [List.getElem_set_ne e]
theorem row_of (w : World) {base : Nat} {e : TypeId} {size n : Nat} {v : Value} {xs : List Value} (h : w.ownsRow base e size v n xs) : ∃ a cap, v = .slice a n cap := by
  rcases h.2 with ⟨rfl, rfl⟩ | ⟨g, cap, cur, rfl, _⟩
  · exact ⟨_, _, rfl⟩
  · exact ⟨_, _, rfl⟩
/-- Pins, and the slice of the holds -/
structure SO (w0 : World) (p m : Nat) (hd : Int → Int) (sh : Int → Bool) (H : List Ho) (N : Nat) (v : Value) (W : World) : Prop where
  st : ∃ K, ST w0 W p m 0 hd sh H N K W
  own : W.ownsRow w0.heap.size 26 1 v H.length (hps H)
theorem SO.next {w0 : World} {p m N N' : Nat} {hd hd' : Int → Int} {sh sh' : Int → Bool} {H H' : List Ho} {v : Value} {W W' : World} {K : KM} (h : SO w0 p m hd sh H N v W) (hh : hps H' = hps H) (hl2 : H'.length = H.length) (k : ST w0 W p m 0 hd' sh' H' N' K W') : SO w0 p m hd' sh' H' N' v W' :=
  ⟨⟨K, k.rebase⟩, by rw [hh, hl2]; exact k.keep.row h.own (by decide) (by decide) (by decide)⟩

/-- what turns but what is no part of Pins -/
theorem ST.other {w0 w1 : World} {p m N : Nat} {l : Int} {hd : Int → Int} {sh : Int → Bool} {H : List Ho} {K : KM} {W W' : World} (h : ST w0 w1 p m l hd sh H N K W) {T : Nat → Prop} (c : Ch T W W')
    (hT : ∀ j, T j → j < W.heap.size → w0.heap.size ≤ j ∧ ∃ cs e z, W.heap[j]? = some (.cells cs e z) ∧ e ≠ 64 ∧ e ≠ 72 ∧ e ≠ 79) : ST w0 W' p m l hd sh H N K W' := by
  obtain ⟨D, hm, hr⟩ := h.map
  have ne : ∀ {j : Nat} {cs : Array Value} {e : TypeId} {z : Nat × Nat}, W.heap[j]? = some (.cells cs e z) → (e = 64 ∨ e = 72 ∨ e = 79) → ¬ T j := fun hj he ht => by
    obtain ⟨_, cs', e', z', hj', h1, h2, h3⟩ := hT _ ht (lt_of_obj hj)
    rw [hj] at hj'; cases hj'
    rcases he with he | he | he
    · exact h1 he
    · exact h2 he
    · exact h3 he
  refine ⟨c.obj h.obj (ne h.obj (by decide)), ⟨D, c.ownsMap hm (fun ht => ?_), hr⟩, fun n b hk => ⟨(h.key n b hk).1, c.obj (h.key n b hk).2 (ne (h.key n b hk).2 (by decide))⟩, h.no,
    fun x hx => ?_, h.nodup, h.rng, h.ch.trans c (fun j ht hl => absurd (hT j ht (Nat.lt_of_lt_of_le hl h.ch.size)).1 (by omega)), h.far, Kp.refl _⟩
  · obtain ⟨_, cs', e', z', hj', _⟩ := hT _ ht hm.lt
    exact h.mne hj' rfl
  · obtain ⟨h1, k, h2, h3⟩ := h.hold x hx
    exact ⟨h1, k, h2, c.obj h3 (ne h3 (by decide))⟩
theorem own_obj {W : World} {base : Nat} {e : TypeId} {size n : Nat} {v : Value} {xs : List Value} (h : W.ownsRow base e size v n xs) {j : Nat} (hj : v.ownBlock = some j) : base ≤ j ∧ ∃ cs z, W.heap[j]? = some (.cells cs e z) := by
  rcases h.2 with ⟨rfl, _⟩ | ⟨g, cap, cur, rfl, hg, hh, _⟩
  · cases hj
  · cases hj; exact ⟨hg, cur, _, hh⟩
/-- a hold was taken, and appended to the holds -/
theorem SO.push {w0 : World} {p m N N' : Nat} {hd hd' : Int → Int} {sh sh' : Int → Bool} {H : List Ho} {x : Nat} {n : Int} {b : Bool} {v v' : Value} {W W1 W2 : World} {K : KM} {o : Obj} (h : SO w0 p m hd sh H N v W) (k : ST w0 W p m 0 hd' sh' (H ++ [(x, n, b)]) N' K W1)
    (hg : (W1.alloc o).grownBy W2 v.ownBlock) (own : W2.ownsRow w0.heap.size 26 1 v' (H.length + 1) (hps H ++ [.pointer (some ⟨x, 0, none⟩)])) : SO w0 p m hd' sh' (H ++ [(x, n, b)]) N' v' W2 := by
  have own1 := (k.keep.row h.own (by decide) (by decide) (by decide)).alloc o
  refine ⟨⟨K, ST.other (k.step ((Ch.refl _ W1).alloc o)) (T := fun j => v.ownBlock = some j) ((Ch.refl _ _).grown hg (fun j e => .inl e)) (fun j ht _ => ?_)⟩, ?_⟩
  · obtain ⟨h1, cs, z, h2⟩ := own_obj own1 ht
    exact ⟨h1, cs, 26, z, h2, by decide, by decide, by decide⟩
  · rw [List.length_append, hps_append]; exact own
theorem SO.own1 {w0 : World} {p m N N' : Nat} {hd hd' : Int → Int} {sh sh' : Int → Bool} {H H' : List Ho} {v : Value} {W W1 : World} {K : KM} (h : SO w0 p m hd sh H N v W) (k : ST w0 W p m 0 hd' sh' H' N' K W1) (o : Obj) :
    (W1.alloc o).ownsRow w0.heap.size 26 1 v H.length (hps H) := (k.keep.row h.own (by decide) (by decide) (by decide)).alloc o

theorem SO.form {w0 : World} {p m N : Nat} {hd : Int → Int} {sh : Int → Bool} {H : List Ho} {v : Value} {W : World} (h : SO w0 p m hd sh H N v W) (hn : 0 < H.length) :
    ∃ g cap, v = .slice (some ⟨g, 0, none⟩) H.length cap ∧ ∀ j (hj : j < H.length), W.cell? ⟨g, j, none⟩ = some (.pointer (some ⟨H[j].1, 0, none⟩)) := by
  have hc := fun g hg j u hu => h.own.cells (g := g) hg j u hu
  rcases h.own.2 with ⟨rfl, hl⟩ | ⟨g, cap, cur, rfl, _⟩
  · omega
  · refine ⟨g, cap, rfl, fun j hj => ?_⟩
    have := hc g rfl j (.pointer (some ⟨H[j].1, 0, none⟩)) (by simp [hps, hj])
    have e : (⟨g, 0, none⟩ : Addr).add j = ⟨g, j, none⟩ := by unfold Addr.add; split <;> simp_all
    rwa [e] at this

/-- n holds of one key, none freed -/
def allOf (key : Int) (H : List Ho) : Prop := ∀ h ∈ H, h.2.1 = key ∧ h.2.2 = false
theorem upd_upd {α : Type} (f : Int → α) (n : Int) (x y : α) : upd (upd f n x) n y = upd f n y := by funext k; simp only [upd]; split <;> rfl
theorem upd_zero (n : Int) : upd (fun _ => (0 : Int)) n 0 = fun _ => 0 := by funext k; simp [upd]
theorem upd_eq {f : Int → Int} {n x y : Int} (h : x = y) : upd f n x = upd f n y := by rw [h]

set_option maxRecDepth 100000 in
set_option maxHeartbeats 2000000 in
theorem once_walk (key ho fr : Int) (hk : (Lit.int .i64 key).wf = true) (h1 : 0 ≤ ho ∧ ho ≤ 255) (h2 : 0 ≤ fr ∧ fr ≤ 255) (w : World) :
    Calls Try.prog 3 #[.int .i64 key, .int .u8 ho, .int .u8 fr] w fun e w' => e = .returned (.bool true) ∧ Ch (fun _ => False) w w' := by
  obtain ⟨i0, hi0, hz0, hz1, hz2⟩ := info_parts info26
  have HK := Lib.hid hk
  clear hk
  go_enter Try.func3, Try.ntmps3
  go_wp2_with fail
  refine (wakes_any _).mono ?_
  rintro e w1 ⟨rfl, c0⟩
  have C0 := Lib.hid c0
  clear c0
  go_wp2_with fail
  refine (new_any _).mono ?_
  rintro e w2 ⟨p, m, rfl, s0⟩
  have H0 : SO w1 p m (upd (fun _ => 0) key 0) (fun _ => false) [] 0 (.slice none 0 0) w2 := ⟨⟨_, by rw [upd_zero]; exact s0.rebase⟩, World.ownsRow_nil _ _ _ _⟩
  clear s0
  go_wp2_with fail
  generalize hnn : 1 + ho % 10 = nn at *
  obtain ⟨n, rfl⟩ : ∃ n : Nat, nn = n := ⟨nn.toNat, by omega⟩
  have hn : 1 ≤ n ∧ n ≤ 10 := by omega
  clear hnn h1
  go_loopw [23, 9, 10, 11] (fun i v _ _ wr => ∃ (k : Nat) (H : List Ho), k ≤ n ∧ i = .int .i64 k ∧ H.length = k ∧ allOf key H ∧ SO w1 p m (upd (fun _ => 0) key k) (fun _ => false) H k v wr) (fun i _ _ _ _ => n - (intOf i).toNat)
  case atStart => exact ⟨0, [], Nat.zero_le _, rfl, rfl, (fun h hh => by cases hh), H0⟩
  case round =>
    obtain ⟨k, H, hk, rfl, hl, hall, hso⟩ := hrel
    clear H0
    have HS := Lib.hid hso
    have HA := Lib.hid hall
    have HL := Lib.hid hl
    obtain ⟨K, hst⟩ := hso.st
    clear hso hall hl
    by_cases hlt : k < n
    · have T := take_yes hst HK.out (by omega) rfl (by rw [upd_same]; omega)
      have HT := Lib.hid T
      clear T hst
      go_wp2_with fail
      refine HT.out.mono ?_
      rintro e w3 ⟨x, K', rfl, h3⟩
      have H3 := Lib.hid h3
      clear h3
      go_wp2_with (at_builtin; refine wpList_append_own _ rfl _ _ 25 rfl w1.heap.size 26 i0 (.pointer none) 1 8 Try.underlying25 hi0 hz0 hz1 hz2 rfl (by decide) _ _ _ rfl (HS.out.own1 H3.out _) ⟨w3.heap.size, 0, none⟩ 1 1 [.pointer (some ⟨x, 0, none⟩)] rfl rfl ?a1 ?a2 ?a3 ?a4 ?a5 ?_)
      case a1 => exact cell_one_new _ _ _
      case a2 => simp [Value.oneCell']
      case a3 => have := HL.out; unfold maxLen; omega
      case a4 => have := HL.out; omega
      case a5 => have := H3.out.ch.size; simp; omega
      intro v' w4 hown4 hgrow4 _
      go_wp2
      go_roundw
      case rel =>
        refine ⟨k + 1, H ++ [(x, key, false)], by omega, by go_num, by rw [List.length_append, HL.out]; rfl, ?_, ?_⟩
        · intro h hh
          rcases List.mem_append.1 hh with hh | hh
          · exact HA.out h hh
          · simp at hh; subst hh; exact ⟨rfl, rfl⟩
        · have := HS.out.push H3.out hgrow4 hown4
          rw [upd_upd, upd_same] at this
          exact this
      case measure => simp [intOf]; omega
    · obtain rfl : k = n := by omega
      go_wp2_with fail
      generalize hrr : 1 + fr % 10 = rr at *
      obtain ⟨r, rfl⟩ : ∃ r : Nat, rr = r := ⟨rr.toNat, by omega⟩
      have hr : 1 ≤ r ∧ r ≤ 10 := by omega
      clear hrr h2 hst
      have h0 : 0 < H.length := by have := HL.out; omega
      obtain ⟨g, cap, ev, _⟩ := HS.out.form h0
      have hl := HL.out
      rw [hl] at ev
      subst ev
      have S0 : SO w1 p m (upd (fun _ => 0) key (k - dn false)) (fun _ => false) H k (.slice (some ⟨g, 0, none⟩) k cap) wr := by
        have e : (k : Int) - dn false = k := by simp [dn]
        rw [e]; exact HS.out
      clear hl
      go_loopw [46, 12] (fun j t wr => ∃ (q : Nat) (H' : List Ho) (d : Bool), q ≤ r ∧ j = .int .i64 q ∧ d = decide (0 < q) ∧ t = .int .i64 (dn d) ∧ H'.length = k ∧ (∀ h0 : 0 < H'.length, H'[0].2.1 = key ∧ H'[0].2.2 = d) ∧ SO w1 p m (upd (fun _ => 0) key (k - dn d)) (fun _ => false) H' k (.slice (some ⟨g, 0, none⟩) k cap) wr) (fun j _ _ => r - (intOf j).toNat)
      case atStart => exact ⟨0, H, false, Nat.zero_le _, rfl, rfl, rfl, HL.out, (fun h0 => ⟨(HA.out _ (List.getElem_mem h0)).1, (HA.out _ (List.getElem_mem h0)).2⟩), S0⟩
      case round =>
        obtain ⟨q, H', d, hq, rfl, hd, rfl, hl', hh0, hso⟩ := hrel
        clear S0
        have h0' : 0 < H'.length := by omega
        obtain ⟨e1, e2⟩ := hh0 h0'
        obtain ⟨g', cap', ev, hcell⟩ := hso.form h0'
        have hc0 := hcell 0 h0'
        simp only [Value.slice.injEq, Option.some.injEq, Addr.mk.injEq] at ev
        obtain ⟨⟨rfl, -, -⟩, -, rfl⟩ := ev
        obtain ⟨K, hst⟩ := hso.st
        have HSO := Lib.hid hso
        clear hcell hso hh0
        by_cases hlq : q < r
        · cases d with
          | false =>
            have T := Lib.hid (free_yes (i := 0) hst h0' e2 (by rw [e1, upd_same]; simp [dn]; omega))
            have E1 := Lib.hid e1
            have hq0 : q = 0 := by simpa using hd
            clear hst e1 e2 hd
            go_wp2_with fail
            refine T.out.mono ?_
            rintro e w5 ⟨rfl, h5⟩
            go_wp2_with fail
            go_roundw
            case rel =>
              refine ⟨q + 1, H'.set 0 (H'[0].1, H'[0].2.1, true), true, by omega, by go_num, by simp, by simp [dn, wrap64], by simp [hl'], (fun h => by simp [E1.out]), ?_⟩
              refine HSO.out.next (hps_set H' 0 h0' true) (by simp) (K := K) ?_
              rw [E1.out, upd_upd, upd_same] at h5
              rw [E1.out]
              rw [show (k : Int) - dn true = k - dn false + -1 by simp only [dn]; omega]
              exact h5
            case measure => simp [intOf]; omega
          | true =>
            have T := Lib.hid (free_no (i := 0) hst h0' e2)
            have E1 := Lib.hid e1
            have E2 := Lib.hid e2
            have hq0 : 0 < q := by simpa using hd
            clear hst e1 e2 hd
            go_wp2_with fail
            refine T.out.mono ?_
            rintro e w5 ⟨rfl, h5⟩
            go_wp2_with fail
            go_roundw
            case rel =>
              exact ⟨q + 1, H', true, by omega, by go_num, by simp, rfl, hl', (fun h => ⟨E1.out, E2.out⟩), HSO.out.next rfl rfl h5⟩
            case measure => simp [intOf]; omega
        · obtain rfl : q = r := by omega
          obtain rfl : d = true := by rw [hd]; simp; omega
          have hw1 : IntKind.i64.wrap (k - 1) = k - 1 := IntWalk.i64_in _ (by omega)
          have T := Lib.hid (held_any hst HK.out)
          clear hst hd
          simp only [dn]
          go_wp2_with fail
          refine T.out.mono ?_
          rintro e w5 ⟨rfl, h5⟩
          rw [upd_same]
          simp only [dn]
          by_cases hk1 : k = 1
          · have hk2 : ((k : Int) == 1) = true := by simp; omega
            go_wp2_with fail
            refine (shut_yes h5 HK.out (by omega) (by rw [upd_same]; simp [dn]; omega)).mono ?_
            rintro e w6 ⟨rfl, K6, h6⟩
            go_wp2_with fail
            go_ret
            exact ⟨by simp, C0.out.trans h6.ch (fun _ h _ => h)⟩
          · have hk2 : ((k : Int) == 1) = false := by simp; omega
            go_wp2_with fail
            refine (shut_no h5 HK.out (by omega) (by rw [upd_same]; simp [dn]; omega)).mono ?_
            rintro e w6 ⟨rfl, K6, h6⟩
            go_wp2_with fail
            go_ret
            exact ⟨by simp, C0.out.trans h6.ch (fun _ h _ => h)⟩
end Go.Proofs.Ytklnbfelcpnbeaa
