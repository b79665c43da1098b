/- ArenaBack's helpers: sum, lowest; the arena by its regions alone. -/
import Derived.Test.YtekblfnemcaaeaaArLowest
set_option linter.unusedVariables false
set_option linter.unusedSimpArgs false
namespace Go.Proofs.Ytekblfnemcaaeaa.ArenaBack
open Go.RowKit Go.Proofs.Ytekblfnemcaaeaa.ArenaLowest
theorem total_nn {ls : List RegT} (h : Good 64 ls) (i : Nat) : 0 ≤ total (ls.take i) := by
  have := total_len (n := 64) (ls := ls.take i) (fun r hr => h.1 r (List.mem_of_mem_take hr))
  omega
theorem total_64 {ls : List RegT} (h : Good 64 ls) (i : Nat) (hi : i ≤ 64) : total (ls.take i) ≤ 64 * i := by
  induction i with
  | zero => simp [total]
  | succ i ih =>
    rcases Nat.lt_or_ge i ls.length with h1 | h1
    · rw [total_take ls i h1]
      have := ih (by omega)
      have := h.1 _ (rg_mem h1)
      omega
    · rw [List.take_of_length_le (by omega)]
      have h2 := ih (by omega)
      rw [List.take_of_length_le h1] at h2
      omega
set_option maxRecDepth 100000 in
set_option maxHeartbeats 4000000 in
theorem sum_any (A : Option Addr) (c : Nat) (ls : List RegT) (w : World) (hl : ListG w A ls) (hg : Good 64 ls) (hf : ls.length ≤ 64) :
    Calls Try.prog 17 #[.slice A ls.length c] w fun e w' => e = .returned (.int .i64 (total ls)) ∧ Kept [] w w' := by
  have HL := Lib.hid hl
  have G := Lib.hid hg
  clear hl hg
  go_enter Try.func17, Try.ntmps17
  go_wp2_with fail
  go_loopw [3, 8] (fun u v wr => ∃ (j : Nat) (s : Int), j ≤ ls.length ∧ u = .int .i64 s ∧ v = .int .i64 j ∧ Hid (s = total (ls.take j)) ∧ 0 ≤ s ∧ s ≤ 64 * (j : Int) ∧ Hid (Kept [] w wr)) (fun _ v _ => (ls.length - intOf v).toNat)
  case atStart => exact ⟨0, 0, Nat.zero_le _, rfl, rfl, Lib.hid (by simp [total]), by omega, by omega, Lib.hid (Kept.refl _ _)⟩
  case round =>
    obtain ⟨j, s, hj, rfl, rfl, hs, hs0, hs1, hk⟩ := hrel
    by_cases hjl : j < ls.length
    · obtain ⟨xg, rfl, hcG⟩ := (HL.out.keep hk.out) (by omega)
      have hxl := hcG.1
      have hz7 := hk.out.size
      obtain ⟨k0, k1⟩ := hcG.2 j hjl
      have hr1 := G.out.1 _ (rg_mem hjl)
      have HT := Lib.hid (total_take ls j hjl)
      have dj : decide (j < ls.length) = true := by simp; omega
      generalize rg ls j = r at *
      obtain ⟨ra, rn⟩ := r
      dsimp only at k0 k1 hr1
      clear hcG
      go_wp2_with fail
      go_roundw
      case rel => exact ⟨j + 1, s + rn, by omega, rfl, by go_num, Lib.hid (by rw [HT.out, ← hs.out]), by omega, by omega, Lib.hid (by have := hk.out; (repeat' (first | (with_reducible exact Kept.refl _ _) | (with_reducible assumption) | (with_reducible refine Kept.then_ (by with_reducible assumption) ?_) | (with_reducible refine Kept.thenS (by with_reducible assumption) ?_) | (with_reducible refine Kept.alloc ?_ _) | (with_reducible refine Kept.drew ?_) | (with_reducible refine Kept.drewN ?_ _) | (with_reducible refine Kept.setNew ?_ ?_ _) | ((try simp only [World.size_alloc, World.size_setCell, World.size_drew, size_drewN] at *); (try dsimp only); omega))))⟩
      case measure => simp [intOf]; omega
    · obtain rfl : j = ls.length := by omega
      have he := hs.out
      rw [List.take_length] at he
      subst he
      go_wp2_with fail
      go_ret
      exact ⟨rfl, hk.out⟩
/-- Whether a row meets one of some regions, but for x. -/
def meetsO (ls : List RegT) (x : RegT) (q : Int) : Bool := ls.any (fun r => !(decide (r = x)) && decide (q < r.1 + r.2) && decide (r.1 < q + x.2))
theorem meetsO_take (ls : List RegT) (x : RegT) (q : Int) (i : Nat) (h : i < ls.length) : meetsO (ls.take (i + 1)) x q = (meetsO (ls.take i) x q || (!(decide (rg ls i = x)) && decide (q < (rg ls i).1 + (rg ls i).2) && decide ((rg ls i).1 < q + x.2))) := by
  unfold meetsO
  rw [List.take_succ_eq_append_getElem h, List.any_append]
  have := rg_some h
  rw [List.getElem?_eq_getElem h] at this
  injection this with this
  rw [this]
  simp
set_option maxRecDepth 100000 in
set_option maxHeartbeats 4000000 in
theorem lowest_any (A : Option Addr) (c : Nat) (ls : List RegT) (x : RegT) (w : World) (hl : ListG w A ls) (hg : Good 64 ls) (hf : ls.length ≤ 64) (hx : 0 ≤ x.1 ∧ 1 ≤ x.2 ∧ x.1 + x.2 ≤ 64) (Q : Nat) (hQ : Q ≤ 64) (hq1 : meetsO ls x Q = false) (hq2 : ∀ b : Nat, b < Q → meetsO ls x b = true) :
    Calls Try.prog 18 #[.slice A ls.length c, .agg #[.int .i64 x.1, .int .i64 x.2]] w fun e w' => e = .returned (.int .i64 Q) ∧ Kept [] w w' := by
  have HL := Lib.hid hl
  have G := Lib.hid hg
  have H1 := Lib.hid hq1
  have H2 := Lib.hid hq2
  clear hl hg hq1 hq2
  obtain ⟨xa, xn⟩ := x
  dsimp only at hx ⊢
  go_enter Try.func18, Try.ntmps18
  go_wp2_with fail
  have hz : w.heap.size < w.heap.size + 1 := by omega
  go_loopw [5] (fun v wr => ∃ q : Nat, q ≤ Q ∧ v = .int .i64 q ∧ Hid (Blk wr w.heap.size 39 #[.int .i64 xa, .int .i64 xn]) ∧ Hid (Kept [] w wr)) (fun v _ => (65 - intOf v).toNat)
  case atStart => exact ⟨0, Nat.zero_le _, rfl, Lib.hid (Blk.new _ _ _), Lib.hid ((Kept.refl [] w).alloc _)⟩
  case round =>
    obtain ⟨q, hq, rfl, hbx, hkr⟩ := hrel
    obtain ⟨wo, rfl⟩ : ∃ wo : World, wo = wr := ⟨_, rfl⟩
    go_wp2_with fail
    go_loopw [6, 13] (fun u v w7 => ∃ (j : Nat) (b : Bool), j ≤ ls.length ∧ u = .bool b ∧ v = .int .i64 j ∧ Hid (b = meetsO (ls.take j) (xa, xn) q) ∧ Hid (Kept [] wo w7)) (fun _ v _ => (ls.length - intOf v).toNat)
    case atStart => exact ⟨0, false, Nat.zero_le _, rfl, rfl, Lib.hid (by simp [meetsO]), Lib.hid (Kept.refl _ _)⟩
    case round =>
      obtain ⟨j, b, hj, rfl, rfl, hb, hk7⟩ := hrel
      have hz7 := hk7.out.size
      have hz8 := hkr.out.size
      have hz9 := hbx.out.lt
      by_cases hjl : j < ls.length
      · obtain ⟨xg, rfl, hcG⟩ := ((HL.out.keep hkr.out).keep hk7.out) (by omega)
        have hxl := hcG.1
        obtain ⟨k0, k1⟩ := hcG.2 j hjl
        have hr1 := G.out.1 _ (rg_mem hjl)
        have HT := Lib.hid (meetsO_take ls (xa, xn) q j hjl)
        have dj : decide (j < ls.length) = true := by simp; omega
        have bx := hbx.out.keep0 hk7.out
        have bx0 := bx.cell 0
        have bx1 := bx.cell 1
        have bxl := bx.lt
        generalize rg ls j = r at *
        obtain ⟨ra, rn⟩ := r
        dsimp only at k0 k1 hr1
        clear hcG bx
        cases b with
        | true =>
          have HE : Hid (true = meetsO (ls.take (j + 1)) (xa, xn) q) := Lib.hid (by rw [HT.out, ← hb.out]; simp)
          go_wp2_with fail
          go_roundw
          case rel => first | exact ⟨j + 1, _, by omega, rfl, by go_num, HE, Lib.hid (by have := hk7.out; (repeat' (first | (with_reducible exact Kept.refl _ _) | (with_reducible assumption) | (with_reducible refine Kept.then_ (by with_reducible assumption) ?_) | (with_reducible refine Kept.thenS (by with_reducible assumption) ?_) | (with_reducible refine Kept.alloc ?_ _) | (with_reducible refine Kept.drew ?_) | (with_reducible refine Kept.drewN ?_ _) | (with_reducible refine Kept.setNew ?_ ?_ _) | ((try simp only [World.size_alloc, World.size_setCell, World.size_drew, size_drewN] at *); (try dsimp only); omega))))⟩ | ((repeat apply Exists.intro); exact ⟨⟨j + 1, _, by omega, rfl, by go_num, HE, Lib.hid (by have := hk7.out; (repeat' (first | (with_reducible exact Kept.refl _ _) | (with_reducible assumption) | (with_reducible refine Kept.then_ (by with_reducible assumption) ?_) | (with_reducible refine Kept.thenS (by with_reducible assumption) ?_) | (with_reducible refine Kept.alloc ?_ _) | (with_reducible refine Kept.drew ?_) | (with_reducible refine Kept.drewN ?_ _) | (with_reducible refine Kept.setNew ?_ ?_ _) | ((try simp only [World.size_alloc, World.size_setCell, World.size_drew, size_drewN] at *); (try dsimp only); omega))))⟩, rfl⟩)
          case measure => simp [intOf]; omega
        | false =>
          by_cases e1 : xa = ra
          · subst e1
            by_cases e2 : xn = rn
            · subst e2
              have HE : Hid (false = meetsO (ls.take (j + 1)) (xa, xn) q) := Lib.hid (by rw [HT.out, ← hb.out]; simp)
              go_wp2_with fail
              go_roundw
              case rel => first | exact ⟨j + 1, _, by omega, rfl, by go_num, HE, Lib.hid (by have := hk7.out; (repeat' (first | (with_reducible exact Kept.refl _ _) | (with_reducible assumption) | (with_reducible refine Kept.then_ (by with_reducible assumption) ?_) | (with_reducible refine Kept.thenS (by with_reducible assumption) ?_) | (with_reducible refine Kept.alloc ?_ _) | (with_reducible refine Kept.drew ?_) | (with_reducible refine Kept.drewN ?_ _) | (with_reducible refine Kept.setNew ?_ ?_ _) | ((try simp only [World.size_alloc, World.size_setCell, World.size_drew, size_drewN] at *); (try dsimp only); omega))))⟩ | ((repeat apply Exists.intro); exact ⟨⟨j + 1, _, by omega, rfl, by go_num, HE, Lib.hid (by have := hk7.out; (repeat' (first | (with_reducible exact Kept.refl _ _) | (with_reducible assumption) | (with_reducible refine Kept.then_ (by with_reducible assumption) ?_) | (with_reducible refine Kept.thenS (by with_reducible assumption) ?_) | (with_reducible refine Kept.alloc ?_ _) | (with_reducible refine Kept.drew ?_) | (with_reducible refine Kept.drewN ?_ _) | (with_reducible refine Kept.setNew ?_ ?_ _) | ((try simp only [World.size_alloc, World.size_setCell, World.size_drew, size_drewN] at *); (try dsimp only); omega))))⟩, rfl⟩)
              case measure => simp [intOf]; omega
            · by_cases t1 : (q : Int) < xa + rn
              · by_cases t2 : xa < (q : Int) + xn
                · have HE : Hid (true = meetsO (ls.take (j + 1)) (xa, xn) q) := Lib.hid (by rw [HT.out, ← hb.out]; simp [Ne.symm e2, t1, t2])
                  go_wp2_with fail
                  go_roundw
                  case rel => first | exact ⟨j + 1, _, by omega, rfl, by go_num, HE, Lib.hid (by have := hk7.out; (repeat' (first | (with_reducible exact Kept.refl _ _) | (with_reducible assumption) | (with_reducible refine Kept.then_ (by with_reducible assumption) ?_) | (with_reducible refine Kept.thenS (by with_reducible assumption) ?_) | (with_reducible refine Kept.alloc ?_ _) | (with_reducible refine Kept.drew ?_) | (with_reducible refine Kept.drewN ?_ _) | (with_reducible refine Kept.setNew ?_ ?_ _) | ((try simp only [World.size_alloc, World.size_setCell, World.size_drew, size_drewN] at *); (try dsimp only); omega))))⟩ | ((repeat apply Exists.intro); exact ⟨⟨j + 1, _, by omega, rfl, by go_num, HE, Lib.hid (by have := hk7.out; (repeat' (first | (with_reducible exact Kept.refl _ _) | (with_reducible assumption) | (with_reducible refine Kept.then_ (by with_reducible assumption) ?_) | (with_reducible refine Kept.thenS (by with_reducible assumption) ?_) | (with_reducible refine Kept.alloc ?_ _) | (with_reducible refine Kept.drew ?_) | (with_reducible refine Kept.drewN ?_ _) | (with_reducible refine Kept.setNew ?_ ?_ _) | ((try simp only [World.size_alloc, World.size_setCell, World.size_drew, size_drewN] at *); (try dsimp only); omega))))⟩, rfl⟩)
                  case measure => simp [intOf]; omega
                · have HE : Hid (false = meetsO (ls.take (j + 1)) (xa, xn) q) := Lib.hid (by rw [HT.out, ← hb.out]; simp [Ne.symm e2, t1, t2])
                  go_wp2_with fail
                  go_roundw
                  case rel => first | exact ⟨j + 1, _, by omega, rfl, by go_num, HE, Lib.hid (by have := hk7.out; (repeat' (first | (with_reducible exact Kept.refl _ _) | (with_reducible assumption) | (with_reducible refine Kept.then_ (by with_reducible assumption) ?_) | (with_reducible refine Kept.thenS (by with_reducible assumption) ?_) | (with_reducible refine Kept.alloc ?_ _) | (with_reducible refine Kept.drew ?_) | (with_reducible refine Kept.drewN ?_ _) | (with_reducible refine Kept.setNew ?_ ?_ _) | ((try simp only [World.size_alloc, World.size_setCell, World.size_drew, size_drewN] at *); (try dsimp only); omega))))⟩ | ((repeat apply Exists.intro); exact ⟨⟨j + 1, _, by omega, rfl, by go_num, HE, Lib.hid (by have := hk7.out; (repeat' (first | (with_reducible exact Kept.refl _ _) | (with_reducible assumption) | (with_reducible refine Kept.then_ (by with_reducible assumption) ?_) | (with_reducible refine Kept.thenS (by with_reducible assumption) ?_) | (with_reducible refine Kept.alloc ?_ _) | (with_reducible refine Kept.drew ?_) | (with_reducible refine Kept.drewN ?_ _) | (with_reducible refine Kept.setNew ?_ ?_ _) | ((try simp only [World.size_alloc, World.size_setCell, World.size_drew, size_drewN] at *); (try dsimp only); omega))))⟩, rfl⟩)
                  case measure => simp [intOf]; omega
              · have HE : Hid (false = meetsO (ls.take (j + 1)) (xa, xn) q) := Lib.hid (by rw [HT.out, ← hb.out]; simp [Ne.symm e2, t1])
                go_wp2_with fail
                go_roundw
                case rel => first | exact ⟨j + 1, _, by omega, rfl, by go_num, HE, Lib.hid (by have := hk7.out; (repeat' (first | (with_reducible exact Kept.refl _ _) | (with_reducible assumption) | (with_reducible refine Kept.then_ (by with_reducible assumption) ?_) | (with_reducible refine Kept.thenS (by with_reducible assumption) ?_) | (with_reducible refine Kept.alloc ?_ _) | (with_reducible refine Kept.drew ?_) | (with_reducible refine Kept.drewN ?_ _) | (with_reducible refine Kept.setNew ?_ ?_ _) | ((try simp only [World.size_alloc, World.size_setCell, World.size_drew, size_drewN] at *); (try dsimp only); omega))))⟩ | ((repeat apply Exists.intro); exact ⟨⟨j + 1, _, by omega, rfl, by go_num, HE, Lib.hid (by have := hk7.out; (repeat' (first | (with_reducible exact Kept.refl _ _) | (with_reducible assumption) | (with_reducible refine Kept.then_ (by with_reducible assumption) ?_) | (with_reducible refine Kept.thenS (by with_reducible assumption) ?_) | (with_reducible refine Kept.alloc ?_ _) | (with_reducible refine Kept.drew ?_) | (with_reducible refine Kept.drewN ?_ _) | (with_reducible refine Kept.setNew ?_ ?_ _) | ((try simp only [World.size_alloc, World.size_setCell, World.size_drew, size_drewN] at *); (try dsimp only); omega))))⟩, rfl⟩)
                case measure => simp [intOf]; omega
          · by_cases t1 : (q : Int) < ra + rn
            · by_cases t2 : ra < (q : Int) + xn
              · have HE : Hid (true = meetsO (ls.take (j + 1)) (xa, xn) q) := Lib.hid (by rw [HT.out, ← hb.out]; simp [Ne.symm e1, t1, t2])
                go_wp2_with fail
                go_roundw
                case rel => first | exact ⟨j + 1, _, by omega, rfl, by go_num, HE, Lib.hid (by have := hk7.out; (repeat' (first | (with_reducible exact Kept.refl _ _) | (with_reducible assumption) | (with_reducible refine Kept.then_ (by with_reducible assumption) ?_) | (with_reducible refine Kept.thenS (by with_reducible assumption) ?_) | (with_reducible refine Kept.alloc ?_ _) | (with_reducible refine Kept.drew ?_) | (with_reducible refine Kept.drewN ?_ _) | (with_reducible refine Kept.setNew ?_ ?_ _) | ((try simp only [World.size_alloc, World.size_setCell, World.size_drew, size_drewN] at *); (try dsimp only); omega))))⟩ | ((repeat apply Exists.intro); exact ⟨⟨j + 1, _, by omega, rfl, by go_num, HE, Lib.hid (by have := hk7.out; (repeat' (first | (with_reducible exact Kept.refl _ _) | (with_reducible assumption) | (with_reducible refine Kept.then_ (by with_reducible assumption) ?_) | (with_reducible refine Kept.thenS (by with_reducible assumption) ?_) | (with_reducible refine Kept.alloc ?_ _) | (with_reducible refine Kept.drew ?_) | (with_reducible refine Kept.drewN ?_ _) | (with_reducible refine Kept.setNew ?_ ?_ _) | ((try simp only [World.size_alloc, World.size_setCell, World.size_drew, size_drewN] at *); (try dsimp only); omega))))⟩, rfl⟩)
                case measure => simp [intOf]; omega
              · have HE : Hid (false = meetsO (ls.take (j + 1)) (xa, xn) q) := Lib.hid (by rw [HT.out, ← hb.out]; simp [Ne.symm e1, t1, t2])
                go_wp2_with fail
                go_roundw
                case rel => first | exact ⟨j + 1, _, by omega, rfl, by go_num, HE, Lib.hid (by have := hk7.out; (repeat' (first | (with_reducible exact Kept.refl _ _) | (with_reducible assumption) | (with_reducible refine Kept.then_ (by with_reducible assumption) ?_) | (with_reducible refine Kept.thenS (by with_reducible assumption) ?_) | (with_reducible refine Kept.alloc ?_ _) | (with_reducible refine Kept.drew ?_) | (with_reducible refine Kept.drewN ?_ _) | (with_reducible refine Kept.setNew ?_ ?_ _) | ((try simp only [World.size_alloc, World.size_setCell, World.size_drew, size_drewN] at *); (try dsimp only); omega))))⟩ | ((repeat apply Exists.intro); exact ⟨⟨j + 1, _, by omega, rfl, by go_num, HE, Lib.hid (by have := hk7.out; (repeat' (first | (with_reducible exact Kept.refl _ _) | (with_reducible assumption) | (with_reducible refine Kept.then_ (by with_reducible assumption) ?_) | (with_reducible refine Kept.thenS (by with_reducible assumption) ?_) | (with_reducible refine Kept.alloc ?_ _) | (with_reducible refine Kept.drew ?_) | (with_reducible refine Kept.drewN ?_ _) | (with_reducible refine Kept.setNew ?_ ?_ _) | ((try simp only [World.size_alloc, World.size_setCell, World.size_drew, size_drewN] at *); (try dsimp only); omega))))⟩, rfl⟩)
                case measure => simp [intOf]; omega
            · have HE : Hid (false = meetsO (ls.take (j + 1)) (xa, xn) q) := Lib.hid (by rw [HT.out, ← hb.out]; simp [Ne.symm e1, t1])
              go_wp2_with fail
              go_roundw
              case rel => first | exact ⟨j + 1, _, by omega, rfl, by go_num, HE, Lib.hid (by have := hk7.out; (repeat' (first | (with_reducible exact Kept.refl _ _) | (with_reducible assumption) | (with_reducible refine Kept.then_ (by with_reducible assumption) ?_) | (with_reducible refine Kept.thenS (by with_reducible assumption) ?_) | (with_reducible refine Kept.alloc ?_ _) | (with_reducible refine Kept.drew ?_) | (with_reducible refine Kept.drewN ?_ _) | (with_reducible refine Kept.setNew ?_ ?_ _) | ((try simp only [World.size_alloc, World.size_setCell, World.size_drew, size_drewN] at *); (try dsimp only); omega))))⟩ | ((repeat apply Exists.intro); exact ⟨⟨j + 1, _, by omega, rfl, by go_num, HE, Lib.hid (by have := hk7.out; (repeat' (first | (with_reducible exact Kept.refl _ _) | (with_reducible assumption) | (with_reducible refine Kept.then_ (by with_reducible assumption) ?_) | (with_reducible refine Kept.thenS (by with_reducible assumption) ?_) | (with_reducible refine Kept.alloc ?_ _) | (with_reducible refine Kept.drew ?_) | (with_reducible refine Kept.drewN ?_ _) | (with_reducible refine Kept.setNew ?_ ?_ _) | ((try simp only [World.size_alloc, World.size_setCell, World.size_drew, size_drewN] at *); (try dsimp only); omega))))⟩, rfl⟩)
              case measure => simp [intOf]; omega
      · obtain rfl : j = ls.length := by omega
        have hbm : b = meetsO ls (xa, xn) q := by have := hb.out; rwa [List.take_length] at this
        rcases Nat.lt_or_ge q Q with h | h
        · obtain rfl : b = true := by rw [hbm]; exact H2.out q h
          clear hbm
          go_wp2_with fail
          go_roundw
          case rel => first | exact ⟨q + 1, by omega, by go_num, Lib.hid (hbx.out.keep0 hk7.out), Lib.hid (hk7.out.then_ hkr.out)⟩ | ((repeat apply Exists.intro); exact ⟨⟨q + 1, by omega, by go_num, Lib.hid (hbx.out.keep0 hk7.out), Lib.hid (hk7.out.then_ hkr.out)⟩, rfl⟩)
          case measure => simp [intOf]; omega
        · obtain rfl : q = Q := by omega
          obtain rfl : b = false := by rw [hbm]; exact H1.out
          clear hbm
          go_wp2_with fail
          go_ret
          exact ⟨rfl, hk7.out.then_ hkr.out⟩
end Go.Proofs.Ytekblfnemcaaeaa.ArenaBack
