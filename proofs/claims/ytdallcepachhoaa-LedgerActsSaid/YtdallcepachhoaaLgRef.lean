/- The document's ledger in memory; what it reads. -/
import Derived.Test.YtdallcepachhoaaLgIn
import Derived.Test.YtdallcepachhoaaLgTwo
set_option linter.unusedVariables false
set_option linter.unusedSimpArgs false
namespace Go.Proofs.Ytdallcepachhoaa
open Go.RowKit
def hd (e : EntT) : Bool := e.2.2.2
def encH (b : Bool) : List Value := [.bool b]
theorem encH_k : EncK encH 1 := ⟨by omega, fun _ => rfl, fun x v hv => by
  simp [encH] at hv
  rw [hv]; rfl⟩
theorem info_bool : (Try.prog.info? 4).map (fun i => (i.zero, i.size, i.bytes)) = some (some (.bool false), 1, 1) := by kernel_rfl
/-- The document's ledger: its blocks T. -/
def RefS (T : List Nat) (w : World) (m : Nat) (ls : List EntT) : Prop :=
  ∃ v u, T = m :: (own v ++ own u) ∧ Blk w m 53 #[v, u] ∧ OwnS (m + 1) 33 3 encB w v (ls.map bk) ∧ OwnS (m + 1) 4 1 encH w u (ls.map hd)
theorem RefS.keepS {S T : List Nat} {w w' : World} {m : Nat} {ls : List EntT} (h : RefS T w m ls) (hk : Kept S w w') (hS : ∀ q, q ∈ S → q ∉ T) : RefS T w' m ls := by
  obtain ⟨v, u, rfl, hb, hv, hu⟩ := h
  exact ⟨v, u, rfl, hb.keep hk (fun hx => hS m hx (by simp)), hv.keepS hk (fun s hs => .inr (fun e => hS s hs (by simp [own, ← e]))), hu.keepS hk (fun s hs => .inr (fun e => hS s hs (by simp [own, ← e])))⟩
theorem RefS.keep0 {T : List Nat} {w w' : World} {m : Nat} {ls : List EntT} (h : RefS T w m ls) (hk : Kept [] w w') : RefS T w' m ls := h.keepS hk (fun q hq => by cases hq)
theorem RefS.lt {T : List Nat} {w : World} {m : Nat} {ls : List EntT} (h : RefS T w m ls) : ∀ q, q ∈ T → q < w.heap.size := by
  obtain ⟨v, u, rfl, hb, hv, hu⟩ := h
  intro q hq
  rcases List.mem_cons.1 hq with rfl | hq
  · exact hb.lt
  · rcases List.mem_append.1 hq with hq | hq
    · obtain ⟨_, cur, hc⟩ := hv.own_ty q hq
      exact hc.lt
    · obtain ⟨_, cur, hc⟩ := hu.own_ty q hq
      exact hc.lt
theorem RefS.ltp {T : List Nat} {w : World} {m : Nat} {ls : List EntT} (h : RefS T w m ls) : m < w.heap.size := h.lt m (by obtain ⟨v, u, rfl, _⟩ := h; simp)
/-- What is held. -/
def HeldB (w : World) (A : Option Addr) (ls : List EntT) : Prop := ∀ j, j < ls.length → ∃ g, A = some ⟨g, 0, none⟩ ∧ g < w.heap.size ∧ w.cell? ⟨g, j, none⟩ = some (.bool (re ls j).2.2.2)
theorem HeldB.keep {w w' : World} {A : Option Addr} {ls : List EntT} (h : HeldB w A ls) (hk : Kept [] w w') : HeldB w' A ls := fun j hj => by
  obtain ⟨g, h1, h2, h3⟩ := h j hj
  exact ⟨g, h1, Nat.lt_of_lt_of_le h2 hk.size, (World.cell?_of_block (hk.block g h2 (by simp))).trans h3⟩
theorem own_held {B : Nat} {w : World} {v : Value} {ls : List EntT} (h : OwnS B 4 1 encH w v (ls.map hd)) : ∃ A c, v = .slice A ls.length c ∧ HeldB w A ls := by
  rcases h.2 with ⟨rfl, h0⟩ | ⟨g, cap, cur, rfl, hb, hg, hn, hm, hs, ht⟩
  · rw [List.length_map] at h0
    exact ⟨none, 0, by rw [h0], fun j hj => by omega⟩
  · refine ⟨some ⟨g, 0, none⟩, cap, by rw [List.length_map], fun j hj => ⟨g, rfl, (Array.getElem?_eq_some_iff.1 hg).1, ?_⟩⟩
    have h2 := h.cells (g := g) rfl j (.bool (re ls j).2.2.2) (by
      have := encH_k.flat_get (ls.map hd) j 0 (by omega)
      rw [Nat.mul_one, Nat.add_zero] at this
      rw [this, List.getElem?_map, re_some hj]
      rfl)
    rw [Addr.add_lit, Nat.zero_add] at h2
    exact h2
/-- The document's ledger, to read. -/
def RefR (w : World) (m : Nat) (ls : List EntT) (A : Option Addr) (c : Nat) (A' : Option Addr) (c' : Nat) : Prop :=
  m < w.heap.size ∧ w.cell? ⟨m, 0, none⟩ = some (.slice A ls.length c) ∧ w.cell? ⟨m, 1, none⟩ = some (.slice A' ls.length c') ∧ ListB (fun _ => True) w A (ls.map bk) ∧ HeldB w A' ls
theorem RefR.keep {w w' : World} {m : Nat} {ls : List EntT} {A A' : Option Addr} {c c' : Nat} (h : RefR w m ls A c A' c') (hk : Kept [] w w') : RefR w' m ls A c A' c' := by
  obtain ⟨h1, h2, h3, h4, h5⟩ := h
  have hb := hk.block m h1 (by simp)
  exact ⟨Nat.lt_of_lt_of_le h1 hk.size, (World.cell?_of_block hb).trans h2, (World.cell?_of_block hb).trans h3, h4.keep hk, h5.keep hk⟩
theorem RefS.reads {T : List Nat} {w : World} {m : Nat} {ls : List EntT} (h : RefS T w m ls) : ∃ A c A' c', RefR w m ls A c A' c' := by
  obtain ⟨v, u, rfl, hb, hv, hu⟩ := h
  obtain ⟨A, c, e1, h1⟩ := listB_of hv
  obtain ⟨A', c', e2, h2⟩ := own_held hu
  subst e1 e2
  rw [List.length_map] at hb
  refine ⟨A, c, A', c', hb.lt, hb.cell 0, hb.cell 1, fun h0 => ?_, h2⟩
  obtain ⟨g, _, h3, h4⟩ := h1 h0
  exact ⟨g, trivial, h3, h4⟩
theorem RefR.blk {w : World} {m : Nat} {ls : List EntT} {A A' : Option Addr} {c c' : Nat} (h : RefR w m ls A c A' c') {j : Nat} (hj : j < ls.length) :
    ∃ g, A = some ⟨g, 0, none⟩ ∧ g < w.heap.size ∧ w.cell? ⟨g, j * 3, none⟩ = some (.int .u64 (re ls j).1) ∧ w.cell? ⟨g, j * 3 + 1, none⟩ = some (.int .u64 (re ls j).2.1) ∧ w.cell? ⟨g, j * 3 + 2, none⟩ = some (.int .u64 (re ls j).2.2.1) := by
  obtain ⟨g, _, h1, h2⟩ := h.2.2.2.1 (by simp; omega)
  obtain ⟨x0, x1, x2⟩ := h2.2 j (by simpa using hj)
  rw [rb_map hj] at x0 x1 x2
  exact ⟨g, h1, h2.1, x0, x1, x2⟩
theorem takes_any (a n l : Int) (w : World) (h2 : 0 ≤ n) (r : Int) (hr : mx n = r) :
    Calls Try.prog 50 #[.agg #[.int .u64 a, .int .u64 n, .int .u64 l]] w fun e w' => e = .returned (.int .u64 r) ∧ Kept [] w w' := by
  subst hr
  unfold mx
  rcases Int.lt_or_le n 1 with h3 | h3
  · rw [if_pos h3]
    go_enter Try.func50, Try.ntmps50
    go_wp2_with fail
    go_ret
    exact ⟨rfl, by (repeat' (first | (with_reducible exact Kept.refl _ _) | (with_reducible assumption) | (with_reducible refine Kept.then_ (by with_reducible assumption) ?_) | (with_reducible refine Kept.thenS (by with_reducible assumption) ?_) | (with_reducible refine Kept.alloc ?_ _) | (with_reducible refine Kept.drew ?_) | (with_reducible refine Kept.drewN ?_ _) | (with_reducible refine Kept.setNew ?_ ?_ _) | ((try simp only [World.size_alloc, World.size_setCell, World.size_drew, size_drewN] at *); (try dsimp only); omega)))⟩
  · rw [if_neg (by omega)]
    rcases Int.lt_or_le 1 n with h4 | h4
    · go_enter Try.func50, Try.ntmps50
      go_wp2_with fail
      go_ret
      exact ⟨rfl, by (repeat' (first | (with_reducible exact Kept.refl _ _) | (with_reducible assumption) | (with_reducible refine Kept.then_ (by with_reducible assumption) ?_) | (with_reducible refine Kept.thenS (by with_reducible assumption) ?_) | (with_reducible refine Kept.alloc ?_ _) | (with_reducible refine Kept.drew ?_) | (with_reducible refine Kept.drewN ?_ _) | (with_reducible refine Kept.setNew ?_ ?_ _) | ((try simp only [World.size_alloc, World.size_setCell, World.size_drew, size_drewN] at *); (try dsimp only); omega)))⟩
    · obtain rfl : n = 1 := by omega
      go_enter Try.func50, Try.ntmps50
      go_wp2_with fail
      go_ret
      exact ⟨rfl, by (repeat' (first | (with_reducible exact Kept.refl _ _) | (with_reducible assumption) | (with_reducible refine Kept.then_ (by with_reducible assumption) ?_) | (with_reducible refine Kept.thenS (by with_reducible assumption) ?_) | (with_reducible refine Kept.alloc ?_ _) | (with_reducible refine Kept.drew ?_) | (with_reducible refine Kept.drewN ?_ _) | (with_reducible refine Kept.setNew ?_ ?_ _) | ((try simp only [World.size_alloc, World.size_setCell, World.size_drew, size_drewN] at *); (try dsimp only); omega)))⟩
def atI (ls : List EntT) (z : Int) : Int := match idxL ls z with
  | none => -1
  | some k => (k : Int)
theorem atI_hit {ls : List EntT} {z : Int} {j : Nat} (hj : j < ls.length) (h : ∀ i, i < j → (re ls i).1 ≠ z) (he : (re ls j).1 = z) : atI ls z = (j : Int) ∧ idxL ls z = some j := by
  have : idxL ls z = some j := by
    unfold idxL
    rw [List.findIdx?_eq_some_iff_getElem]
    have e1 := re_some hj
    rw [List.getElem?_eq_getElem hj] at e1
    injection e1 with e1
    refine ⟨hj, by rw [e1]; simpa using he, fun i hi => ?_⟩
    have e2 := re_some (show i < ls.length by omega)
    rw [List.getElem?_eq_getElem (by omega)] at e2
    injection e2 with e2
    rw [e2]
    simpa using h i hi
  exact ⟨by unfold atI; rw [this], this⟩
theorem atI_miss {ls : List EntT} {z : Int} (h : ∀ i, i < ls.length → (re ls i).1 ≠ z) : atI ls z = -1 ∧ idxL ls z = none := by
  have : idxL ls z = none := by
    unfold idxL
    rw [List.findIdx?_eq_none_iff]
    intro e he
    obtain ⟨i, hil, rfl⟩ := mem_re he
    simpa using h i hil
  exact ⟨by unfold atI; rw [this], this⟩
set_option maxRecDepth 100000 in
set_option maxHeartbeats 2000000 in
theorem rat_any (T : List Nat) (w : World) (m : Nat) (ls : List EntT) (h : RefS T w m ls) (hl : ls.length ≤ 1000) (z : Int) (r : Int) (hr : atI ls z = r) :
    Calls Try.prog 48 #[.pointer (some ⟨m, 0, none⟩), .int .u64 z] w fun e w' => e = .returned (.int .i64 r) ∧ Kept [] w w' := by
  subst hr
  obtain ⟨A, c, A', c', hR⟩ := h.reads
  have HR := Lib.hid hR
  obtain ⟨x0, x1, x2, _⟩ := hR
  clear h
  go_enter Try.func48, Try.ntmps48
  go_wp2_with fail
  go_loopw [12] (fun v wr => ∃ j : Nat, j ≤ ls.length ∧ v = .int .i64 j ∧ Hid (∀ i, i < j → (re ls i).1 ≠ z) ∧ Hid (Kept [] w wr)) (fun v _ => (ls.length - intOf v).toNat)
  case atStart => exact ⟨0, Nat.zero_le _, rfl, Lib.hid (fun i hi => by omega), Lib.hid (Kept.refl _ _)⟩
  case round =>
    obtain ⟨j, hj, rfl, hn, hk⟩ := hrel
    by_cases hjl : j < ls.length
    · obtain ⟨g, rfl, hgl, y0, y1, y2⟩ := (HR.out.keep hk.out).blk hjl
      have dj : decide (j < ls.length) = true := by simp; omega
      by_cases he : (re ls j).1 = z
      · have HE := Lib.hid (atI_hit hjl hn.out he).1
        rw [he] at y0
        generalize re ls j = e at *
        obtain ⟨ea, en, el, eh⟩ := e
        dsimp only at y0 y1 y2
        clear he
        go_wp2_with fail
        go_ret
        exact ⟨ret_int HE.out.symm, by have := hk.out; (repeat' (first | (with_reducible exact Kept.refl _ _) | (with_reducible assumption) | (with_reducible refine Kept.then_ (by with_reducible assumption) ?_) | (with_reducible refine Kept.thenS (by with_reducible assumption) ?_) | (with_reducible refine Kept.alloc ?_ _) | (with_reducible refine Kept.drew ?_) | (with_reducible refine Kept.drewN ?_ _) | (with_reducible refine Kept.setNew ?_ ?_ _) | ((try simp only [World.size_alloc, World.size_setCell, World.size_drew, size_drewN] at *); (try dsimp only); omega)))⟩
      · have HN : Hid (∀ i, i < j + 1 → (re ls i).1 ≠ z) := Lib.hid (fun i hi => by
          rcases Nat.lt_or_ge i j with h | h
          · exact hn.out i h
          · rw [show i = j by omega]; exact he)
        have hb : ((re ls j).1 == z) = false := by rw [beq_eq_false_iff_ne]; exact he
        generalize (re ls j).1 = ea at y0 hb
        generalize (re ls j).2.1 = en at y1
        generalize (re ls j).2.2.1 = el at y2
        clear he
        go_wp2_with fail
        go_roundw
        case rel => exact ⟨j + 1, by omega, by go_num, HN, Lib.hid (by have := hk.out; (repeat' (first | (with_reducible exact Kept.refl _ _) | (with_reducible assumption) | (with_reducible refine Kept.then_ (by with_reducible assumption) ?_) | (with_reducible refine Kept.thenS (by with_reducible assumption) ?_) | (with_reducible refine Kept.alloc ?_ _) | (with_reducible refine Kept.drew ?_) | (with_reducible refine Kept.drewN ?_ _) | (with_reducible refine Kept.setNew ?_ ?_ _) | ((try simp only [World.size_alloc, World.size_setCell, World.size_drew, size_drewN] at *); (try dsimp only); omega))))⟩
        case measure => simp [intOf]; omega
    · obtain rfl : j = ls.length := by omega
      have HE := Lib.hid (atI_miss hn.out).1
      go_wp2_with fail
      go_ret
      exact ⟨ret_int HE.out.symm, hk.out⟩
set_option maxRecDepth 100000 in
set_option maxHeartbeats 2000000 in
theorem rone_none (T : List Nat) (w : World) (m : Nat) (ls : List EntT) (h : RefS T w m ls) : Calls Try.prog 49 #[.pointer (some ⟨m, 0, none⟩), .int .i64 (-1)] w fun e w' => e = .returned (ansB (0, 0, 0) 5) ∧ Kept [] w w' := by
  clear h
  go_enter Try.func49, Try.ntmps49
  go_wp2_with fail
  refine bodyPost_ret (v := ansB (0, 0, 0) 5) (by simp [results, Try.results49, go_sem, ansB]) rfl ⟨rfl, by (repeat' (first | (with_reducible exact Kept.refl _ _) | (with_reducible assumption) | (with_reducible refine Kept.then_ (by with_reducible assumption) ?_) | (with_reducible refine Kept.thenS (by with_reducible assumption) ?_) | (with_reducible refine Kept.alloc ?_ _) | (with_reducible refine Kept.drew ?_) | (with_reducible refine Kept.drewN ?_ _) | (with_reducible refine Kept.setNew ?_ ?_ _) | ((try simp only [World.size_alloc, World.size_setCell, World.size_drew, size_drewN] at *); (try dsimp only); omega)))⟩
set_option maxRecDepth 100000 in
set_option maxHeartbeats 2000000 in
theorem rone_any (T : List Nat) (w : World) (m : Nat) (ls : List EntT) (h : RefS T w m ls) (k : Nat) (hk : k < ls.length) (hl : ls.length ≤ 1000) (r : BlkT × Int) (hr : oneP ls k = r) :
    Calls Try.prog 49 #[.pointer (some ⟨m, 0, none⟩), .int .i64 (k : Int)] w fun e w' => e = .returned (ansB r.1 r.2) ∧ Kept [] w w' := by
  subst hr
  obtain ⟨A, c, A', c', hR⟩ := h.reads
  have hR' := hR
  obtain ⟨x0, x1, x2, _, hH⟩ := hR'
  obtain ⟨g, rfl, hgl, y0, y1, y2⟩ := hR.blk hk
  obtain ⟨g', rfl, hgl', z0⟩ := hH k hk
  have q1 : (0 : Int) ≤ (k : Int) := by omega
  have q2 : (k : Int) < (ls.length : Int) := by omega
  have q3 : decide ((k : Int) < 0) = false := by simp
  unfold oneP
  generalize re ls k = e at *
  obtain ⟨ea, en, el, eh⟩ := e
  dsimp only at y0 y1 y2 z0
  clear h hR hH
  cases eh with
  | true =>
    go_enter Try.func49, Try.ntmps49
    go_wp2_with fail
    refine bodyPost_ret (v := ansB (0, 0, 0) 7) (by simp [results, Try.results49, go_sem, ansB]) rfl ⟨rfl, by (repeat' (first | (with_reducible exact Kept.refl _ _) | (with_reducible assumption) | (with_reducible refine Kept.then_ (by with_reducible assumption) ?_) | (with_reducible refine Kept.thenS (by with_reducible assumption) ?_) | (with_reducible refine Kept.alloc ?_ _) | (with_reducible refine Kept.drew ?_) | (with_reducible refine Kept.drewN ?_ _) | (with_reducible refine Kept.setNew ?_ ?_ _) | ((try simp only [World.size_alloc, World.size_setCell, World.size_drew, size_drewN] at *); (try dsimp only); omega)))⟩
  | false =>
    go_enter Try.func49, Try.ntmps49
    go_wp2_with fail
    refine bodyPost_ret (v := ansB (ea, en, el) 0) (by simp [results, Try.results49, go_sem, ansB]) rfl ⟨rfl, by (repeat' (first | (with_reducible exact Kept.refl _ _) | (with_reducible assumption) | (with_reducible refine Kept.then_ (by with_reducible assumption) ?_) | (with_reducible refine Kept.thenS (by with_reducible assumption) ?_) | (with_reducible refine Kept.alloc ?_ _) | (with_reducible refine Kept.drew ?_) | (with_reducible refine Kept.drewN ?_ _) | (with_reducible refine Kept.setNew ?_ ?_ _) | ((try simp only [World.size_alloc, World.size_setCell, World.size_drew, size_drewN] at *); (try dsimp only); omega)))⟩
end Go.Proofs.Ytdallcepachhoaa
