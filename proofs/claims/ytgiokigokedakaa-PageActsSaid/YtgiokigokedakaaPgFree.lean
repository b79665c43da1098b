/- given, Free, Used, Made, Run, Cell of a page. -/
import Derived.Test.YtgiokigokedakaaPgAlloc
set_option linter.unusedVariables false
set_option linter.unusedSimpArgs false
namespace Go.Proofs.Ytgiokigokedakaa
open Go.RowKit
theorem PgOk.may {a : PgA} {len : Nat} (h : PgOk a len) (hl : len ≤ 1048576) : MayP a.F a.Z a.N := by
  have hb := h.run
  have h5 := hb.2.2.2.2
  have h6 : ((a.N * a.Z : Nat) : Int) = (a.N : Int) * (a.Z : Int) := by simp
  unfold MayP
  have h7 : a.Z ≤ a.N * a.Z := Nat.le_mul_of_pos_left _ (by omega)
  refine ⟨by omega, by omega, by omega, by omega, by omega, by omega⟩
/-- What given answers. -/
def PgA.giv (a : PgA) (x : Int) : Int := if idxE a.F a.Z a.N x = 0 ∧ (a.made : Int) ≤ idxV a.F a.Z a.N x then 5 else idxE a.F a.Z a.N x
theorem PgOk.giv_ok {a : PgA} {len : Nat} (h : PgOk a len) (hl : len ≤ 1048576) {i : Nat} (hi : i < a.made) : a.giv (a.bl i : Int) = 0 := by
  have := h.made
  obtain ⟨h1, h2⟩ := idx_hit (h.may hl) (k := i) (by omega) (show ((a.bl i : Nat) : Int) = a.F + i * a.Z by unfold PgA.bl; simp)
  unfold PgA.giv
  rw [h1, h2, if_neg (by omega)]
theorem PgOk.giv_us {a : PgA} {len : Nat} (h : PgOk a len) (hl : len ≤ 1048576) {x : Nat} (hx : x ∈ a.fr ++ (a.lo ++ (a.po ++ a.us))) : a.giv (x : Int) = 0 := by
  obtain ⟨i, hi, rfl⟩ := h.mem_all hx
  exact h.giv_ok hl hi
set_option maxRecDepth 100000 in
set_option maxHeartbeats 4000000 in
theorem given_any (w : World) (p mp g : Nat) (a : PgA) (zs : List Int) (h : PgM w p mp g a zs) (x : Int) (hx : 0 ≤ x) (r : Int) (hr : a.giv x = r) :
    Calls Try.prog 38 #[.pointer (some ⟨p, 0, none⟩), .int .u64 x] w fun e w' => e = .returned (.int .i64 r) ∧ Kept [] w w' := by
  subst hr
  obtain ⟨⟨fh, lh, hd, hR⟩, hok⟩ := h
  have DI := Lib.hid (fun w' => index_any a.F a.Z a.N x (by omega) (by omega) hx w')
  have HR := Lib.hid hR
  have pl := hR.blk.lt
  have k0 := hR.c0
  have k1 := hR.c1
  have k2 := hR.c2
  have k3 := hR.c3
  clear hR hok
  unfold PgA.giv
  generalize idxE a.F a.Z a.N x = E at *
  generalize idxV a.F a.Z a.N x = V at *
  by_cases h0 : E = 0
  · subst h0
    by_cases h1 : (a.made : Int) ≤ V
    · rw [if_pos ⟨rfl, h1⟩]
      have q1 : decide ((a.made : Int) ≤ V) = true := by simp; omega
      go_enter Try.func38, Try.ntmps38
      go_wp2_with fail
      (with_reducible refine (DI.out _).mono ?_)
      rintro e w1 ⟨rfl, hb1⟩
      have k3' := hb1.at_ pl k3
      have pl1 := (HR.out.keep0 hb1).blk.lt
      go_wp2_with fail
      (first | go_ret2 | go_ret)
      exact ⟨rfl, hb1⟩
    · rw [if_neg (fun h => h1 h.2)]
      have q1 : decide ((a.made : Int) ≤ V) = false := by simp; omega
      go_enter Try.func38, Try.ntmps38
      go_wp2_with fail
      (with_reducible refine (DI.out _).mono ?_)
      rintro e w1 ⟨rfl, hb1⟩
      have k3' := hb1.at_ pl k3
      have pl1 := (HR.out.keep0 hb1).blk.lt
      go_wp2_with fail
      (first | go_ret2 | go_ret)
      exact ⟨rfl, hb1⟩
  · rw [if_neg (fun h => h0 h.1)]
    have q0 : (E == 0) = false := by rw [beq_eq_false_iff_ne]; exact h0
    go_enter Try.func38, Try.ntmps38
    go_wp2_with fail
    (with_reducible refine (DI.out _).mono ?_)
    rintro e w1 ⟨rfl, hb1⟩
    go_wp2_with fail
    (first | go_ret2 | go_ret)
    exact ⟨rfl, hb1⟩
def PgA.free1 (a : PgA) (x : Nat) : PgA := { a with lo := x :: a.lo, us := a.us.erase x }
def PgA.freeL (a : PgA) (xs : List Nat) : PgA := xs.foldl PgA.free1 a
theorem PgOk.free1 {a : PgA} {len : Nat} (h : PgOk a len) {x : Nat} (hx : x ∈ a.us) : PgOk (a.free1 x) len := by
  refine ⟨h.run, h.made, List.Perm.trans ?_ h.all⟩
  show (a.fr ++ (x :: a.lo ++ (a.po ++ a.us.erase x))).Perm (a.fr ++ (a.lo ++ (a.po ++ a.us)))
  refine List.Perm.append_left _ ?_
  have e1 : a.lo ++ (a.po ++ a.us) = (a.lo ++ a.po) ++ a.us := by simp
  have e2 : x :: a.lo ++ (a.po ++ a.us.erase x) = x :: ((a.lo ++ a.po) ++ a.us.erase x) := by simp
  rw [e1, e2]
  exact List.perm_middle.symm.trans (List.Perm.append_left _ (List.perm_cons_erase hx).symm)
/-- A block in hands is far from those in the rows. -/
theorem PgOk.far_us {a : PgA} {len : Nat} (h : PgOk a len) {x : Nat} (hx : x ∈ a.us) : Far x a.fr ∧ Far x a.lo ∧ Far x a.po := by
  have hp := h.apart
  unfold Apart at hp
  have e1 : a.fr ++ (a.lo ++ (a.po ++ a.us)) = (a.fr ++ (a.lo ++ a.po)) ++ a.us := by simp
  rw [e1, List.pairwise_append] at hp
  have key : ∀ y, y ∈ a.fr ++ (a.lo ++ a.po) → x + 8 ≤ y ∨ y + 8 ≤ x := fun y hy => by
    have := hp.2.2 y hy x hx
    omega
  exact ⟨fun y hy => key y (by simp [hy]), fun y hy => key y (by simp [hy]), fun y hy => key y (by simp [hy])⟩
theorem PgOk.mem_us {a : PgA} {len : Nat} (h : PgOk a len) {x : Nat} (hx : x ∈ a.us) : x ≠ 0 ∧ x + 8 ≤ len := by
  obtain ⟨i, hi, rfl⟩ := h.mem_all (x := x) (by simp [hx])
  have := h.bl_lt (show i < a.N by have := h.made; omega)
  have := h.run
  omega
theorem PgOk.nodup {a : PgA} {len : Nat} (h : PgOk a len) : (a.fr ++ (a.lo ++ (a.po ++ a.us))).Nodup := by
  refine h.all.nodup_iff.2 ?_
  rw [List.nodup_iff_pairwise_ne, List.pairwise_map]
  exact (List.pairwise_lt_range (n := a.made)).imp (fun hij e => by have := h.bl_inj e; omega)
theorem PgOk.nodup_us {a : PgA} {len : Nat} (h : PgOk a len) : a.us.Nodup := by
  have := h.nodup
  rw [List.nodup_append, List.nodup_append, List.nodup_append] at this
  exact this.2.1.2.1.2.1
theorem len_sub : ∀ {xs us : List Nat}, xs.Nodup → (∀ x, x ∈ xs → x ∈ us) → xs.length ≤ us.length
  | [], _, _, _ => Nat.zero_le _
  | x :: xs, us, hnd, h => by
    rw [List.nodup_cons] at hnd
    have hx := h x (by simp)
    have h1 := len_sub (xs := xs) (us := us.erase x) hnd.2 (fun y hy => (List.mem_erase_of_ne (by intro e; subst e; exact hnd.1 hy)).2 (h y (by simp [hy])))
    have h2 := List.length_erase_of_mem hx
    have h3 := List.length_pos_of_mem hx
    simp only [List.length_cons]
    omega
theorem freeL_us : ∀ (xs : List Nat) (a : PgA) (x : Nat), x ∈ a.us → x ∉ xs → x ∈ (a.freeL xs).us
  | [], _, _, h, _ => h
  | y :: xs, a, x, h, hn => by
    show x ∈ ((a.free1 y).freeL xs).us
    refine freeL_us xs (a.free1 y) x ?_ (fun h => hn (by simp [h]))
    show x ∈ a.us.erase y
    exact (List.mem_erase_of_ne (fun e => hn (by simp [e]))).2 h
theorem PgA.freeL_take (a : PgA) (xs : List Nat) (j x : Nat) (h : xs[j]? = some x) : a.freeL (xs.take (j + 1)) = (a.freeL (xs.take j)).free1 x := by
  unfold PgA.freeL
  rw [List.take_add_one, h, List.foldl_append]
  rfl
theorem PgR.freed {w : World} {p mp g : Nat} {a : PgA} {zs : List Int} {fh lh hd x : Nat} (h : PgR w p mp g { a with lo := x :: a.lo } zs fh lh hd) (hx : x ∈ a.us) :
    PgR (w.setCell ⟨p, 4, none⟩ (.int .i64 ((a.po.length : Int) + (a.us.length : Int) - 1))) p mp g (a.free1 x) zs fh lh hd := by
  have h1 := h.ne1
  have h2 := h.ne2
  have hl := List.length_erase_of_mem hx
  have hp : 0 < a.us.length := List.length_pos_of_mem hx
  refine ⟨?_, h.mem.far (by simp; omega) (by simp; omega) _, h.fr, h.lo, h.po⟩
  exact (h.blk.set_ 4 _).cast (by simp [PgA.cells, PgA.free1, hl]; omega)
set_option maxRecDepth 100000 in
set_option maxHeartbeats 4000000 in
theorem free_any (w : World) (p mp g : Nat) (a : PgA) (zs : List Int) (h : PgM w p mp g a zs) (xs : List Nat) (hnd : xs.Nodup) (hus : ∀ x, x ∈ xs → x ∈ a.us) (A : Option Addr) (n c : Nat) (hn : n = xs.length) (hr : ∀ w', Kept [p, g] w w' → RowX .u64 w' A (xs.map (fun (x : Nat) => (x : Int)))) :
    Calls Try.prog 13 #[.pointer (some ⟨p, 0, none⟩), .slice A n c] w fun e w' => e = .returned (.int .i64 0) ∧ (∃ zs', PgM w' p mp g (a.freeL xs) zs' ∧ Rest xs zs zs') ∧ Kept [p, g] w w' := by
  subst hn
  have H0 := Lib.hid h
  have HND := Lib.hid hnd
  have HUS := Lib.hid hus
  have HR := Lib.hid hr
  have hxl : xs.length ≤ 1024 := by
    have h1 := h.2.short.2.2
    have h2 := len_sub hnd hus
    omega
  obtain ⟨⟨fh0, lh0, hd0, hR0⟩, _⟩ := h
  have pl0 := hR0.blk.lt
  clear hnd hus hr hR0
  go_enter Try.func13, Try.ntmps13
  go_wp2_with fail
  go_loopw [13] (fun v wr => ∃ (j : Nat) (zj : List Int), j ≤ xs.length ∧ v = .int .i64 j ∧ Hid (PgM wr p mp g (a.freeL (xs.take j)) zj) ∧ Hid (Rest (xs.take j) zs zj) ∧ Hid (Kept [p, g] w wr)) (fun v _ => (xs.length - intOf v).toNat)
  case atStart => exact ⟨0, zs, Nat.zero_le _, rfl, H0, Lib.hid (Rest.refl _ _), Lib.hid (Kept.refl _ _)⟩
  case round =>
    obtain ⟨j, zj, hj, rfl, hm, hrest, hk⟩ := hrel
    obtain ⟨⟨fh, lh, hd, hR⟩, hok⟩ := hm.out
    have pl := hR.blk.lt
    by_cases hjl : j < xs.length
    · obtain ⟨ad, rfl, hc⟩ := (HR.out wr hk.out).get (by simp; omega)
      have hxj : xs[j]? = some (xs[j]?.getD 0) := by rw [List.getElem?_eq_getElem hjl]; rfl
      have hcell : wr.cell? (ad.add j) = some (.int .u64 ((xs[j]?.getD 0 : Nat) : Int)) := by
        have := hc wr (Kept.refl _ _) j (by simp; omega)
        rw [getD_map] at this
        exact this
      have hxm : xs[j]?.getD 0 ∈ (a.freeL (xs.take j)).us := by
        refine freeL_us _ _ _ (HUS.out _ (List.mem_iff_getElem?.2 ⟨j, hxj⟩)) (fun hm => ?_)
        obtain ⟨i, hi⟩ := List.mem_iff_getElem?.1 hm
        rw [List.getElem?_take] at hi
        split at hi
        · rename_i hij
          have h1 := List.pairwise_iff_getElem.1 HND.out i j (by omega) hjl hij
          have h2 := hi.trans hxj.symm
          rw [List.getElem?_eq_getElem (by omega), List.getElem?_eq_getElem hjl] at h2
          injection h2 with h2
          exact h1 h2
        · cases hi
      have HT := Lib.hid (PgA.freeL_take a xs j _ hxj)
      have HTK : Hid (xs.take (j + 1) = xs.take j ++ [xs[j]?.getD 0]) := Lib.hid (by rw [List.take_add_one, hxj]; rfl)
      generalize xs[j]?.getD 0 = x at *
      generalize a.freeL (xs.take j) = b at *
      obtain ⟨x0, x8⟩ := hok.mem_us hxm
      obtain ⟨f1, f2, f3⟩ := hok.far_us hxm
      have hzl := hR.lens
      have hsh := hok.short
      have hpos := List.length_pos_of_mem hxm
      have DG := Lib.hid (given_any wr p mp g b zj hm.out (x : Int) (by omega) 0 (hok.giv_us hzl (by simp [hxm])))
      have DP : Hid (∀ w' y c, Kept [] wr w' → w'.cell? ⟨y, 0, none⟩ = some (.int .u64 (x : Int)) → Calls Try.prog 39 #[.pointer (some ⟨p, 8, none⟩), .pointer (some ⟨mp, 0, none⟩), .slice (some ⟨y, 0, none⟩) 1 c] w' fun e w'' => e = .returned (.int .i64 0) ∧ PgR w'' p mp g { b with lo := x :: b.lo } (splice zj x (bytesOf 8 (lh : Int))) fh x hd ∧ Kept [p, g] w' w'') := Lib.hid (fun w' y c hk' hy => pushL w' p mp g b zj fh lh hd x y c (hR.keep0 hk') (by omega) x0 x8 f1 f2 f3 hy)
      have HB := Lib.hid hR
      have HO := Lib.hid hok
      have HXM := Lib.hid hxm
      have HRS : Hid (Rest (xs.take (j + 1)) zs (splice zj x (bytesOf 8 (lh : Int)))) := Lib.hid (by
        rw [HTK.out]
        exact (hrest.out.mono (fun z hz => by simp [hz])).trans ((Rest.splice zj x (lh : Int) x8).mono (fun z hz => by simp at hz; simp [hz])))
      have dj : decide (j < xs.length) = true := by simp; omega
      have q0 : ((b.po.length : Int) + (b.us.length : Int) == 0) = false := by rw [beq_eq_false_iff_ne]; omega
      have hlen : (splice zj x (bytesOf 8 (lh : Int))).length = zj.length := len_splice8 zj x _ x8
      clear hc hR hok hxm hxj f1 f2 f3
      go_wp2_with fail
      (with_reducible refine DG.out.mono ?_)
      rintro e w1 ⟨rfl, hb1⟩
      have R1 := Lib.hid (HB.out.keep0 hb1)
      have k4 := R1.out.c4
      have k5 := R1.out.c5
      have l1 := R1.out.blk.lt
      go_wp2_with fail
      go_region_held3 (fun w' => w'.cell? ⟨p, 5, none⟩ = some (.pointer (some ⟨mp, 0, none⟩)) ∧ p < w'.heap.size) (first | exact ⟨k5, l1⟩ | exact ⟨v5, v6⟩ | exact ⟨Kept.at_ (w := w1) (by (repeat' (first | (with_reducible exact Kept.refl _ _) | (with_reducible assumption) | (with_reducible refine Kept.then_ (by with_reducible assumption) ?_) | (with_reducible refine Kept.thenS (by with_reducible assumption) ?_) | (with_reducible refine Kept.alloc ?_ _) | (with_reducible refine Kept.drew ?_) | (with_reducible refine Kept.drewN ?_ _) | (with_reducible refine Kept.setNew ?_ ?_ _) | ((try simp only [World.size_alloc, World.size_setCell, World.size_drew, size_drewN] at *); (try dsimp only); omega)))) l1 k5, by simp; omega⟩ | go_keep) ((go_at_call 39; refine (DP.out _ _ _ (by (repeat' (first | (with_reducible exact Kept.refl _ _) | (with_reducible assumption) | (with_reducible refine Kept.then_ (by with_reducible assumption) ?_) | (with_reducible refine Kept.thenS (by with_reducible assumption) ?_) | (with_reducible refine Kept.alloc ?_ _) | (with_reducible refine Kept.drew ?_) | (with_reducible refine Kept.drewN ?_ _) | (with_reducible refine Kept.setNew ?_ ?_ _) | ((try simp only [World.size_alloc, World.size_setCell, World.size_drew, size_drewN] at *); (try dsimp only); omega)))) (Blk.cell (Blk.drew (Blk.new' _ _ _ (by simp))) 0)).mono ?_; rintro e w6 ⟨rfl, hq6, hk6⟩; have v5 := hq6.c5; have v6 := hq6.blk.lt; have Q6 := Lib.hid hq6; have K6 := Lib.hid hk6; clear hq6 hk6))
      have u4 := Q6.out.c4
      dsimp only at u4
      have g4 := Q6.out.blk.frozen 4
      have KF : Hid (Kept [p, g] w w6) := Lib.hid (K6.out.thenS (by have := hb1.then_ hk.out; (repeat' (first | (with_reducible exact Kept.refl _ _) | (with_reducible assumption) | (with_reducible refine Kept.then_ (by with_reducible assumption) ?_) | (with_reducible refine Kept.thenS (by with_reducible assumption) ?_) | (with_reducible refine Kept.alloc ?_ _) | (with_reducible refine Kept.drew ?_) | (with_reducible refine Kept.drewN ?_ _) | (with_reducible refine Kept.setNew ?_ ?_ _) | ((try simp only [World.size_alloc, World.size_setCell, World.size_drew, size_drewN] at *); (try dsimp only); omega)))))
      have QF := Lib.hid (Q6.out.freed HXM.out)
      have q4 : IntKind.i64.wrap ((b.po.length : Int) + (b.us.length : Int) - 1) = (b.po.length : Int) + (b.us.length : Int) - 1 := by rw [IntKind.wrap_i64]; omega
      go_wp2_with fail
      go_roundw
      case rel =>
        have hfin : PgM _ p mp g (b.free1 x) (splice zj x (bytesOf 8 (lh : Int))) := ⟨⟨_, _, _, QF.out⟩, by rw [hlen]; exact HO.out.free1 HXM.out⟩
        rw [← HT.out] at hfin
        first | exact ⟨j + 1, _, by omega, by go_num, Lib.hid hfin, HRS, Lib.hid (KF.out.setIn (by simp) _)⟩ | ((repeat apply Exists.intro); exact ⟨⟨j + 1, _, by omega, by go_num, Lib.hid hfin, HRS, Lib.hid (KF.out.setIn (by simp) _)⟩, rfl⟩)
      case measure => simp [intOf]; omega
    · obtain rfl : j = xs.length := by omega
      have HM := Lib.hid hm.out
      go_wp2_with fail
      (first | go_ret2 | go_ret)
      have h1 := HM.out
      have h2 := hrest.out
      rw [List.take_length] at h1 h2
      exact ⟨rfl, ⟨zj, h1, h2⟩, hk.out⟩
end Go.Proofs.Ytgiokigokedakaa
