/- Alloc of a page. PRINTED BY mkpgalloc.py. -/
import Derived.Test.YtgiokigokedakaaPgMore
set_option linter.unusedVariables false
set_option linter.unusedSimpArgs false
namespace Go.Proofs.Ytgiokigokedakaa
open Go.RowKit
def PgA.swap (a : PgA) : PgA := if a.fr = [] then { a with fr := a.lo, lo := [] } else a
def PgA.ready (a : PgA) : PgA := if a.swap.fr = [] then a.swap.more else a.swap
def PgA.taken (a : PgA) (x : Nat) (r : List Nat) : PgA := { a with fr := r, us := x :: a.us }
theorem PgOk.swap {a : PgA} {len : Nat} (h : PgOk a len) : PgOk a.swap len := by
  unfold PgA.swap
  split
  · rename_i hf
    have := h.all
    rw [hf] at this
    have h2 : (a.lo ++ (a.po ++ a.us)).Perm ((List.range a.made).map a.bl) := by simpa using this
    exact ⟨h.run, h.made, h2⟩
  · exact h
theorem PgOk.ready {a : PgA} {len : Nat} (h : PgOk a len) : PgOk a.ready len := by
  unfold PgA.ready
  split
  · exact h.swap.more (by assumption)
  · exact h.swap
theorem PgOk.taken {a : PgA} {len : Nat} (h : PgOk a len) {x : Nat} {r : List Nat} (hf : a.fr = x :: r) : PgOk (a.taken x r) len := by
  refine ⟨h.run, h.made, List.Perm.trans ?_ h.all⟩
  rw [hf]
  show (r ++ (a.lo ++ (a.po ++ x :: a.us))).Perm (x :: r ++ (a.lo ++ (a.po ++ a.us)))
  have e : r ++ (a.lo ++ (a.po ++ x :: a.us)) = (r ++ a.lo ++ a.po) ++ x :: a.us := by simp
  have e2 : x :: r ++ (a.lo ++ (a.po ++ a.us)) = x :: ((r ++ a.lo ++ a.po) ++ a.us) := by simp
  rw [e, e2]
  exact List.perm_middle
/-- What Alloc answers, and leaves. -/
def AllocR (w : World) (p mp g : Nat) (a : PgA) (zs : List Int) (e : Ending) (w' : World) : Prop :=
  ((a.ready.fr = [] ∧ e = .returned (.tuple #[.int .u64 0, .int .i64 4]) ∧ ∃ zs', PgM w' p mp g a.ready zs' ∧ Rest (a.some_ 0 a.moreN) zs zs') ∨
    (∃ x r, a.ready.fr = x :: r ∧ e = .returned (.tuple #[.int .u64 (x : Int), .int .i64 0]) ∧ ∃ zs', PgM w' p mp g (a.ready.taken x r) zs' ∧ Rest (a.some_ 0 a.moreN) zs zs')) ∧ Kept [p, g] w w'
theorem PgOk.short {a : PgA} {len : Nat} (h : PgOk a len) : a.fr.length ≤ 1024 ∧ a.lo.length ≤ 1024 ∧ a.po.length + a.us.length ≤ 1024 := by
  have := h.all.length_eq
  simp at this
  have := h.made
  have := h.run
  omega
theorem PgR.swapped {w : World} {p mp g : Nat} {a : PgA} {zs : List Int} {fh lh hd : Nat} (h : PgR w p mp g a zs fh lh hd) (hf : a.fr = []) :
    PgR ((((w.setCell ⟨p, 6, none⟩ (.int .u64 lh)).setCell ⟨p, 7, none⟩ (.int .i64 a.lo.length)).setCell ⟨p, 8, none⟩ (.int .u64 0)).setCell ⟨p, 9, none⟩ (.int .i64 0)) p mp g a.swap zs lh 0 hd := by
  have hs : a.swap = { a with fr := a.lo, lo := [] } := by unfold PgA.swap; rw [if_pos hf]
  rw [hs]
  have h1 := h.ne1
  have h2 := h.ne2
  refine ⟨?_, (((h.mem.far (by simp; omega) (by simp; omega) _).far (by simp; omega) (by simp; omega) _).far (by simp; omega) (by simp; omega) _).far (by simp; omega) (by simp; omega) _, h.lo, rfl, h.po⟩
  exact ((((h.blk.set_ 6 _).set_ 7 _).set_ 8 _).set_ 9 _).cast (by simp [PgA.cells])
theorem PgR.used1 {w : World} {p mp g : Nat} {a : PgA} {zs : List Int} {fh lh hd x : Nat} {r : List Nat} (h : PgR w p mp g { a with fr := r } zs fh lh hd) :
    PgR (w.setCell ⟨p, 4, none⟩ (.int .i64 ((a.po.length : Int) + (a.us.length : Int) + 1))) p mp g (a.taken x r) zs fh lh hd := by
  have h1 := h.ne1
  have h2 := h.ne2
  refine ⟨?_, h.mem.far (by simp; omega) (by simp; omega) _, h.fr, h.lo, h.po⟩
  exact (h.blk.set_ 4 _).cast (by simp [PgA.cells, PgA.taken]; omega)
theorem PgM.off {w : World} {p mp g : Nat} {a : PgA} {zs : List Int} (h : PgM w p mp g a zs) : ∃ fh lh hd, PgR w p mp g a zs fh lh hd := h.1
set_option maxRecDepth 100000 in
set_option maxHeartbeats 4000000 in
theorem allocA (w : World) (p mp g : Nat) (a : PgA) (zs : List Int) (h : PgM w p mp g a zs) (x : Nat) (r : List Nat) (hf : a.fr = x :: r) :
    Calls Try.prog 12 #[.pointer (some ⟨p, 0, none⟩)] w (AllocR w p mp g a zs) := by
  obtain ⟨⟨fh, lh, hd, hR⟩, hok⟩ := h
  have HOK := Lib.hid hok
  have hsh := hok.short
  have hpl := hR.blk.lt
  have HR := Lib.hid hR
  have e1 : a.swap = a := by unfold PgA.swap; rw [if_neg (by rw [hf]; simp)]
  have e2 : a.ready = a := by unfold PgA.ready; rw [e1, if_neg (by rw [hf]; simp)]
  have k7 := hR.c7
  have hl : a.fr.length ≠ 0 := by rw [hf]; simp
  have q7 : ((a.fr.length : Int) == 0) = false := by rw [beq_eq_false_iff_ne]; omega
  have k5 := hR.c5
  have DP := Lib.hid (fun w' (hk : Kept [] w w') => popF w' p mp g a zs fh lh hd x r (hR.keep0 hk) (by omega) hf)
  have HF := Lib.hid hf
  clear hR hok hf
  go_enter Try.func12, Try.ntmps12
  go_wp2_with fail
  go_region_held3 (fun w' => w'.cell? ⟨p, 5, none⟩ = some (.pointer (some ⟨mp, 0, none⟩))) (first | exact k5 | exact v5 | go_keep) ((go_at_call 37; refine (DP.out _ (by (repeat' (first | (with_reducible exact Kept.refl _ _) | (with_reducible assumption) | (with_reducible refine Kept.then_ (by with_reducible assumption) ?_) | (with_reducible refine Kept.thenS (by with_reducible assumption) ?_) | (with_reducible refine Kept.alloc ?_ _) | (with_reducible refine Kept.drew ?_) | (with_reducible refine Kept.drewN ?_ _) | (with_reducible refine Kept.setNew ?_ ?_ _) | ((try simp only [World.size_alloc, World.size_setCell, World.size_drew, size_drewN] at *); (try dsimp only); omega))))).mono ?_; rintro e w6 ⟨rfl, hR6, hk6⟩; have v5 := hR6.c5; have R6 := Lib.hid hR6; have K6 := Lib.hid hk6; clear hR6 hk6))
  have v4 := R6.out.c4
  have l6 := R6.out.blk.lt
  have f4 := R6.out.blk.frozen 4
  go_wp2_with fail
  (first | go_ret2 | go_ret)
  refine ⟨.inr ⟨x, r, by rw [e2]; exact HF.out, rfl, zs, ?_, (Rest.refl [] zs).mono (fun y hy => by cases hy)⟩, ?_⟩
  · rw [e2]
    exact ⟨⟨_, _, _, R6.out.used1⟩, HOK.out.taken HF.out⟩
  · exact ((K6.out.mono (T := [p, g]) (fun y hy _ => by simp at hy; simp [hy])).thenS (by (repeat' (first | (with_reducible exact Kept.refl _ _) | (with_reducible assumption) | (with_reducible refine Kept.then_ (by with_reducible assumption) ?_) | (with_reducible refine Kept.thenS (by with_reducible assumption) ?_) | (with_reducible refine Kept.alloc ?_ _) | (with_reducible refine Kept.drew ?_) | (with_reducible refine Kept.drewN ?_ _) | (with_reducible refine Kept.setNew ?_ ?_ _) | ((try simp only [World.size_alloc, World.size_setCell, World.size_drew, size_drewN] at *); (try dsimp only); omega))))).setIn (by simp) _
set_option maxRecDepth 100000 in
set_option maxHeartbeats 4000000 in
theorem allocB (w : World) (p mp g : Nat) (a : PgA) (zs : List Int) (h : PgM w p mp g a zs) (x : Nat) (r : List Nat) (hf : a.fr = []) (hlo : a.lo = x :: r) :
    Calls Try.prog 12 #[.pointer (some ⟨p, 0, none⟩)] w (AllocR w p mp g a zs) := by
  obtain ⟨⟨fh, lh, hd, hR⟩, hok⟩ := h
  have HOK := Lib.hid hok
  have hsh := hok.short
  have hpl := hR.blk.lt
  have HR := Lib.hid hR
  have e1 : a.swap.fr = x :: r := by unfold PgA.swap; rw [if_pos hf]; exact hlo
  have e2 : a.ready = a.swap := by unfold PgA.ready; rw [if_neg (by rw [e1]; simp)]
  have k7 : w.cell? ⟨p, 7, none⟩ = some (.int .i64 0) := by have := hR.c7; rw [hf] at this; exact this
  have k6 := hR.c6
  have k8 := hR.c8
  have k9 := hR.c9
  have f6 := hR.blk.frozen 6
  have f7 := hR.blk.frozen 7
  have f8 := hR.blk.frozen 8
  have f9 := hR.blk.frozen 9
  have hl : a.lo.length ≠ 0 := by rw [hlo]; simp
  have q7 : ((a.lo.length : Int) == 0) = false := by rw [beq_eq_false_iff_ne]; omega
  have HS := Lib.hid (hR.swapped hf)
  have HE := Lib.hid e1
  have hsw := hok.swap.short.2.2
  have DP := Lib.hid (fun w' (hk : Kept [] ((((w.setCell ⟨p, 6, none⟩ (.int .u64 lh)).setCell ⟨p, 7, none⟩ (.int .i64 a.lo.length)).setCell ⟨p, 8, none⟩ (.int .u64 0)).setCell ⟨p, 9, none⟩ (.int .i64 0)) w') => popF w' p mp g a.swap zs lh 0 hd x r ((hR.swapped hf).keep0 hk) (by rw [e1]; rw [hlo] at hsh; simp at hsh ⊢; omega) e1)
  clear hR hok hf hlo e1
  go_enter Try.func12, Try.ntmps12
  go_wp2_with fail
  obtain ⟨W, hW⟩ : ∃ W, (((w.setCell ⟨p, 6, none⟩ (.int .u64 lh)).setCell ⟨p, 7, none⟩ (.int .i64 a.lo.length)).setCell ⟨p, 8, none⟩ (.int .u64 0)).setCell ⟨p, 9, none⟩ (.int .i64 0) = W := ⟨_, rfl⟩
  have KW : Hid (Kept [p, g] w W) := Lib.hid (by rw [← hW]; exact ((((Kept.refl [p, g] w).setIn (by simp) _).setIn (by simp) _).setIn (by simp) _).setIn (by simp) _)
  rw [hW] at HS DP ⊢
  have k5 := HS.out.c5
  clear hW
  go_region_held3 (fun w' => w'.cell? ⟨p, 5, none⟩ = some (.pointer (some ⟨mp, 0, none⟩))) (first | exact k5 | exact v5 | go_keep) ((go_at_call 37; refine (DP.out _ (by (repeat' (first | (with_reducible exact Kept.refl _ _) | (with_reducible assumption) | (with_reducible refine Kept.then_ (by with_reducible assumption) ?_) | (with_reducible refine Kept.thenS (by with_reducible assumption) ?_) | (with_reducible refine Kept.alloc ?_ _) | (with_reducible refine Kept.drew ?_) | (with_reducible refine Kept.drewN ?_ _) | (with_reducible refine Kept.setNew ?_ ?_ _) | ((try simp only [World.size_alloc, World.size_setCell, World.size_drew, size_drewN] at *); (try dsimp only); omega))))).mono ?_; rintro e w6 ⟨rfl, hR6, hk6⟩; have v5 := hR6.c5; have R6 := Lib.hid hR6; have K6 := Lib.hid hk6; clear hR6 hk6))
  have v4 := R6.out.c4
  have l6 := R6.out.blk.lt
  have f4 := R6.out.blk.frozen 4
  go_wp2_with fail
  (first | go_ret2 | go_ret)
  refine ⟨.inr ⟨x, r, by rw [e2]; exact HE.out, rfl, zs, ?_, (Rest.refl [] zs).mono (fun y hy => by cases hy)⟩, ?_⟩
  · rw [e2]
    exact ⟨⟨_, _, _, R6.out.used1⟩, HOK.out.swap.taken HE.out⟩
  · exact ((K6.out.mono (T := [p, g]) (fun y hy _ => by simp at hy; simp [hy])).thenS (by have := KW.out; (repeat' (first | (with_reducible exact Kept.refl _ _) | (with_reducible assumption) | (with_reducible refine Kept.then_ (by with_reducible assumption) ?_) | (with_reducible refine Kept.thenS (by with_reducible assumption) ?_) | (with_reducible refine Kept.alloc ?_ _) | (with_reducible refine Kept.drew ?_) | (with_reducible refine Kept.drewN ?_ _) | (with_reducible refine Kept.setNew ?_ ?_ _) | ((try simp only [World.size_alloc, World.size_setCell, World.size_drew, size_drewN] at *); (try dsimp only); omega))))).setIn (by simp) _
set_option maxRecDepth 100000 in
set_option maxHeartbeats 4000000 in
theorem allocC (w : World) (p mp g : Nat) (a : PgA) (zs : List Int) (h : PgM w p mp g a zs) (hf : a.fr = []) (hlo : a.lo = []) :
    Calls Try.prog 12 #[.pointer (some ⟨p, 0, none⟩)] w (AllocR w p mp g a zs) := by
  obtain ⟨⟨fh, lh, hd, hR⟩, hok⟩ := h
  have HOK := Lib.hid hok
  have hsh := hok.short
  have hpl := hR.blk.lt
  have HR := Lib.hid hR
  have es : a.swap = a := by
    unfold PgA.swap
    rw [if_pos hf]
    cases a
    simp only at hf hlo ⊢
    rw [hf, hlo]
  have e1 : a.swap.fr = [] := by rw [es]; exact hf
  have e2 : a.ready = a.more := by unfold PgA.ready; rw [if_pos e1, es]
  have k7 : w.cell? ⟨p, 7, none⟩ = some (.int .i64 0) := by have := hR.c7; rw [hf] at this; exact this
  have k6 := hR.c6
  have k8 := hR.c8
  have k9 : w.cell? ⟨p, 9, none⟩ = some (.int .i64 0) := by have := hR.c9; rw [hlo] at this; exact this
  have f6 := hR.blk.frozen 6
  have f7 := hR.blk.frozen 7
  have f8 := hR.blk.frozen 8
  have f9 := hR.blk.frozen 9
  have hS : PgR ((((w.setCell ⟨p, 6, none⟩ (.int .u64 lh)).setCell ⟨p, 7, none⟩ (.int .i64 0)).setCell ⟨p, 8, none⟩ (.int .u64 0)).setCell ⟨p, 9, none⟩ (.int .i64 0)) p mp g a zs lh 0 hd := by
    have := hR.swapped hf
    rw [es, hlo] at this
    exact this
  have HS := Lib.hid hS
  have DM := Lib.hid (fun W (hk : PgR W p mp g a zs lh 0 hd) => more_any W p mp g a zs ⟨⟨_, _, _, hk⟩, hok⟩ hf)
  clear hR hok hf hlo e1 hS
  go_enter Try.func12, Try.ntmps12
  go_wp2_with fail
  obtain ⟨W, hW⟩ : ∃ W, (((w.setCell ⟨p, 6, none⟩ (.int .u64 lh)).setCell ⟨p, 7, none⟩ (.int .i64 0)).setCell ⟨p, 8, none⟩ (.int .u64 0)).setCell ⟨p, 9, none⟩ (.int .i64 0) = W := ⟨_, rfl⟩
  have KW : Hid (Kept [p, g] w W) := Lib.hid (by rw [← hW]; exact ((((Kept.refl [p, g] w).setIn (by simp) _).setIn (by simp) _).setIn (by simp) _).setIn (by simp) _)
  rw [hW] at HS ⊢
  clear hW
  (with_reducible refine (DM.out _ HS.out).mono ?_)
  rintro e w3 ⟨rfl, ⟨zs', hM3, hr3⟩, hk3⟩
  obtain ⟨⟨fh', lh', hd', hR3⟩, hok3⟩ := hM3
  have R3 := Lib.hid hR3
  have OK3 := Lib.hid hok3
  have RS := Lib.hid hr3
  have K3 := Lib.hid (hk3.thenS KW.out)
  have k5 := hR3.c5
  have l3 := hR3.blk.lt
  have hsh3 := hok3.short
  clear hR3 hok3 hr3 hk3 DM
  cases hrf : a.more.fr with
  | nil =>
    have DP := Lib.hid (fun w' (hk : Kept [] w3 w') => popE w' p mp g a.more zs' fh' lh' hd' (R3.out.keep0 hk) hrf)
    have HRF := Lib.hid hrf
    clear hrf
    go_wp2_with fail
    go_region_held3 (fun w' => w'.cell? ⟨p, 5, none⟩ = some (.pointer (some ⟨mp, 0, none⟩))) (first | exact k5 | go_keep) ((go_at_call 37; refine (DP.out _ (by (repeat' (first | (with_reducible exact Kept.refl _ _) | (with_reducible assumption) | (with_reducible refine Kept.then_ (by with_reducible assumption) ?_) | (with_reducible refine Kept.thenS (by with_reducible assumption) ?_) | (with_reducible refine Kept.alloc ?_ _) | (with_reducible refine Kept.drew ?_) | (with_reducible refine Kept.drewN ?_ _) | (with_reducible refine Kept.setNew ?_ ?_ _) | ((try simp only [World.size_alloc, World.size_setCell, World.size_drew, size_drewN] at *); (try dsimp only); omega))))).mono ?_; rintro e w6 ⟨rfl, hw6⟩; subst hw6))
    go_wp2_with fail
    (first | go_ret2 | go_ret)
    refine ⟨.inl ⟨by rw [e2]; exact HRF.out, rfl, zs', ?_, RS.out⟩, ?_⟩
    · rw [e2]
      exact ⟨⟨_, _, _, R3.out.keep0 (by (repeat' (first | (with_reducible exact Kept.refl _ _) | (with_reducible assumption) | (with_reducible refine Kept.then_ (by with_reducible assumption) ?_) | (with_reducible refine Kept.thenS (by with_reducible assumption) ?_) | (with_reducible refine Kept.alloc ?_ _) | (with_reducible refine Kept.drew ?_) | (with_reducible refine Kept.drewN ?_ _) | (with_reducible refine Kept.setNew ?_ ?_ _) | ((try simp only [World.size_alloc, World.size_setCell, World.size_drew, size_drewN] at *); (try dsimp only); omega))))⟩, OK3.out⟩
    · have := K3.out
      (repeat' (first | (with_reducible exact Kept.refl _ _) | (with_reducible assumption) | (with_reducible refine Kept.then_ (by with_reducible assumption) ?_) | (with_reducible refine Kept.thenS (by with_reducible assumption) ?_) | (with_reducible refine Kept.alloc ?_ _) | (with_reducible refine Kept.drew ?_) | (with_reducible refine Kept.drewN ?_ _) | (with_reducible refine Kept.setNew ?_ ?_ _) | ((try simp only [World.size_alloc, World.size_setCell, World.size_drew, size_drewN] at *); (try dsimp only); omega)))
  | cons x r =>
    have DP := Lib.hid (fun w' (hk : Kept [] w3 w') => popF w' p mp g a.more zs' fh' lh' hd' x r (R3.out.keep0 hk) (by omega) hrf)
    have HRF := Lib.hid hrf
    clear hrf
    go_wp2_with fail
    go_region_held3 (fun w' => w'.cell? ⟨p, 5, none⟩ = some (.pointer (some ⟨mp, 0, none⟩))) (first | exact k5 | exact v5 | go_keep) ((go_at_call 37; refine (DP.out _ (by (repeat' (first | (with_reducible exact Kept.refl _ _) | (with_reducible assumption) | (with_reducible refine Kept.then_ (by with_reducible assumption) ?_) | (with_reducible refine Kept.thenS (by with_reducible assumption) ?_) | (with_reducible refine Kept.alloc ?_ _) | (with_reducible refine Kept.drew ?_) | (with_reducible refine Kept.drewN ?_ _) | (with_reducible refine Kept.setNew ?_ ?_ _) | ((try simp only [World.size_alloc, World.size_setCell, World.size_drew, size_drewN] at *); (try dsimp only); omega))))).mono ?_; rintro e w6 ⟨rfl, hR6, hk6⟩; have v5 := hR6.c5; have R6 := Lib.hid hR6; have K6 := Lib.hid hk6; clear hR6 hk6))
    have v4 := R6.out.c4
    have l6 := R6.out.blk.lt
    have f4 := R6.out.blk.frozen 4
    go_wp2_with fail
    (first | go_ret2 | go_ret)
    refine ⟨.inr ⟨x, r, by rw [e2]; exact HRF.out, rfl, zs', ?_, RS.out⟩, ?_⟩
    · rw [e2]
      exact ⟨⟨_, _, _, R6.out.used1⟩, OK3.out.taken HRF.out⟩
    · exact ((K6.out.mono (T := [p, g]) (fun y hy _ => by simp at hy; simp [hy])).thenS (by have := K3.out; (repeat' (first | (with_reducible exact Kept.refl _ _) | (with_reducible assumption) | (with_reducible refine Kept.then_ (by with_reducible assumption) ?_) | (with_reducible refine Kept.thenS (by with_reducible assumption) ?_) | (with_reducible refine Kept.alloc ?_ _) | (with_reducible refine Kept.drew ?_) | (with_reducible refine Kept.drewN ?_ _) | (with_reducible refine Kept.setNew ?_ ?_ _) | ((try simp only [World.size_alloc, World.size_setCell, World.size_drew, size_drewN] at *); (try dsimp only); omega))))).setIn (by simp) _
theorem alloc_any (w : World) (p mp g : Nat) (a : PgA) (zs : List Int) (h : PgM w p mp g a zs) : Calls Try.prog 12 #[.pointer (some ⟨p, 0, none⟩)] w (AllocR w p mp g a zs) := by
  cases hf : a.fr with
  | cons x r => exact allocA w p mp g a zs h x r hf
  | nil =>
    cases hlo : a.lo with
    | cons x r => exact allocB w p mp g a zs h x r hf hlo
    | nil => exact allocC w p mp g a zs h hf hlo
end Go.Proofs.Ytgiokigokedakaa
