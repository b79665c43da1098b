/- Page: Post, in time and late; what the cell says. -/
import Derived.Test.YtgiokigokedakaaPgAlive
set_option linter.unusedVariables false
set_option linter.unusedSimpArgs false
namespace Go.Proofs.Ytgiokigokedakaa
open Go.RowKit
def PgA.post (a : PgA) (x : Nat) : PgA := { a with po := x :: a.po, us := a.us.erase x, tag := a.tag + 1, ask := a.ask + 1 }
def PgA.late (a : PgA) : PgA := { a with ask := a.ask + 1 }
theorem PgOk.post {a : PgA} {len : Nat} (h : PgOk a len) {x : Nat} (hx : x ∈ a.us) : PgOk (a.post x) len := by
  refine ⟨h.run, h.made, List.Perm.trans ?_ h.all⟩
  show (a.fr ++ (a.lo ++ (x :: a.po ++ a.us.erase x))).Perm (a.fr ++ (a.lo ++ (a.po ++ a.us)))
  refine List.Perm.append_left _ (List.Perm.append_left _ ?_)
  exact List.perm_middle.symm.trans (List.Perm.append_left _ (List.perm_cons_erase hx).symm)
theorem PgOk.late {a : PgA} {len : Nat} (h : PgOk a len) : PgOk a.late len := ⟨h.run, h.made, h.all⟩
theorem post_cells (a : PgA) (mp fh lh hd x : Nat) (hx : x ∈ a.us) : (put3 (a.cells mp fh lh hd) 10 (x : Int) ((a.tag : Int) + 1) ((a.ask : Int) + 1)).setIfInBounds 13 (.int .u64 (x : Int)) = (a.post x).cells mp fh lh x := by
  have hl := List.length_erase_of_mem hx
  have hp : 0 < a.us.length := List.length_pos_of_mem hx
  simp [put3, PgA.cells, PgA.post, hl]
  omega
theorem late_cells (a : PgA) (mp fh lh hd : Nat) : put3 (a.cells mp fh lh hd) 10 (hd : Int) (a.tag : Int) ((a.ask : Int) + 1) = a.late.cells mp fh lh hd := by
  simp [put3, PgA.cells, PgA.late]
set_option maxRecDepth 100000 in
set_option maxHeartbeats 4000000 in
theorem post_in (w : World) (p mp g : Nat) (a : PgA) (zs : List Int) (fh lh hd x : Nat) (hR : PgR w p mp g a zs fh lh hd) (hok : PgOk a zs.length) (hx : x ∈ a.us) (ht : a.tag ≤ 1000000000) (ha : a.ask ≤ 1000000000) :
    Calls Try.prog 20 #[.pointer (some ⟨p, 0, none⟩), .int .u64 (x : Int), .int .u64 (hd : Int), .int .u64 (a.tag : Int)] w fun e w' => e = .returned (.tuple #[.bool true, .int .i64 0]) ∧ PgR w' p mp g (a.post x) (splice zs x (bytesOf 8 (hd : Int))) fh lh x ∧ Kept [p, g] w w' := by
  have hzl := hR.lens
  obtain ⟨x0, x8⟩ := hok.mem_us hx
  obtain ⟨f1, f2, f3⟩ := hok.far_us hx
  have h64 := hR.po.hd64 hzl
  have DG := Lib.hid (given_any w p mp g a zs ⟨⟨fh, lh, hd, hR⟩, hok⟩ (x : Int) (by omega) 0 (hok.giv_us hzl (by simp [hx])))
  have HR := Lib.hid hR
  have DS := Lib.hid (fun w' (hk : Kept [] w w') => store_8 w' mp g zs (hR.keep0 hk).mem x (hd : Int) x8 (by omega) (by omega))
  have HW := Lib.hid (fun w1 w2 (h1 : Kept [] w w1) (h2 : Kept [g] w1 w2) (hM : MemB w2 mp g (splice zs x (bytesOf 8 (hd : Int)))) => (hR.keep0 h1).wrote (v := (hd : Int)) h2 x8 f1 f2 f3 hM)
  have HPO := Lib.hid (hR.po.push x0 x8 f3 h64)
  have HX := Lib.hid hx
  have hne1 := hR.ne1
  have hne2 := hR.ne2
  have pl := hR.blk.lt
  clear hR hok f1 f2 f3 hx
  go_enter Try.func20, Try.ntmps20
  go_wp2_with fail
  (with_reducible refine DG.out.mono ?_)
  rintro e w1 ⟨rfl, hb1⟩
  have B1 := Lib.hid hb1
  have k5 := (HR.out.keep0 hb1).c5
  have l1 := (HR.out.keep0 hb1).blk.lt
  clear hb1
  go_wp2_with fail
  (with_reducible refine (DS.out _ B1.out).mono ?_)
  rintro e w2 ⟨rfl, hM2, hk2⟩
  have R2 := Lib.hid (HW.out _ _ B1.out hk2 hM2)
  have K2 : Hid (Kept [p, g] w w2) := Lib.hid ((B1.out.mono (T := [p, g]) (fun x hx _ => by cases hx)).trans hk2 (fun x hx _ => by simp at hx; simp [hx]))
  have DC := Lib.hid (cas_at w2 p 10 92 _ (hd : Int) (a.tag : Int) (a.ask : Int) (x : Int) R2.out.atC (by omega) (by omega))
  have l2 := R2.out.blk.lt
  clear hM2 hk2 k5
  go_wp2_with fail
  (with_reducible refine DC.out.mono ?_)
  rintro e w3 ⟨rfl, hC3, hk3⟩
  have C3 := Lib.hid hC3.blk
  have K3 := Lib.hid hk3
  have l3 := hC3.blk.lt
  have g3 := hC3.blk.frozen 13
  have v3 : w3.cell? ⟨p, 13, none⟩ = some (.int .u64 (hd : Int)) := (hC3.blk.cell 13).trans (by simp [put3, PgA.cells])
  clear hC3 hk3
  go_wp2_with fail
  (first | go_ret2 | go_ret)
  refine ⟨rfl, ⟨?_, ?_, R2.out.fr, R2.out.lo, HPO.out⟩, ?_⟩
  · exact (C3.out.set_ 13 _).cast (post_cells a mp fh lh hd x HX.out)
  · exact (R2.out.mem.keep K3.out (by simp; omega) (by simp; omega)).far (by simp; omega) (by simp; omega) _
  · exact (K2.out.trans K3.out (fun x hx _ => by simp at hx; simp [hx])).setIn (by simp) _
set_option maxRecDepth 100000 in
set_option maxHeartbeats 4000000 in
theorem post_late (w : World) (p mp g : Nat) (a : PgA) (zs : List Int) (fh lh hd x t k : Nat) (hR : PgR w p mp g a zs fh lh hd) (hok : PgOk a zs.length) (hx : x ∈ a.us) (hk64 : (k : Int) < 18446744073709551616) (ht : a.tag ≠ t) (ha : a.ask ≤ 1000000000) :
    Calls Try.prog 20 #[.pointer (some ⟨p, 0, none⟩), .int .u64 (x : Int), .int .u64 (k : Int), .int .u64 (t : Int)] w fun e w' => e = .returned (.tuple #[.bool false, .int .i64 0]) ∧ PgR w' p mp g a.late (splice zs x (bytesOf 8 (k : Int))) fh lh hd ∧ Kept [p, g] w w' := by
  have hzl := hR.lens
  obtain ⟨x0, x8⟩ := hok.mem_us hx
  obtain ⟨f1, f2, f3⟩ := hok.far_us hx
  have h64 := hR.po.hd64 hzl
  have DG := Lib.hid (given_any w p mp g a zs ⟨⟨fh, lh, hd, hR⟩, hok⟩ (x : Int) (by omega) 0 (hok.giv_us hzl (by simp [hx])))
  have HR := Lib.hid hR
  have DS := Lib.hid (fun w' (hk : Kept [] w w') => store_8 w' mp g zs (hR.keep0 hk).mem x (k : Int) x8 (by omega) (by omega))
  have HW := Lib.hid (fun w1 w2 (h1 : Kept [] w w1) (h2 : Kept [g] w1 w2) (hM : MemB w2 mp g (splice zs x (bytesOf 8 (k : Int)))) => (hR.keep0 h1).wrote (v := (k : Int)) h2 x8 f1 f2 f3 hM)
  have HX := Lib.hid hx
  have hne1 := hR.ne1
  have hne2 := hR.ne2
  have pl := hR.blk.lt
  clear hR hok f1 f2 f3 hx
  go_enter Try.func20, Try.ntmps20
  go_wp2_with fail
  (with_reducible refine DG.out.mono ?_)
  rintro e w1 ⟨rfl, hb1⟩
  have B1 := Lib.hid hb1
  have k5 := (HR.out.keep0 hb1).c5
  have l1 := (HR.out.keep0 hb1).blk.lt
  clear hb1
  go_wp2_with fail
  (with_reducible refine (DS.out _ B1.out).mono ?_)
  rintro e w2 ⟨rfl, hM2, hk2⟩
  have R2 := Lib.hid (HW.out _ _ B1.out hk2 hM2)
  have K2 : Hid (Kept [p, g] w w2) := Lib.hid ((B1.out.mono (T := [p, g]) (fun x hx _ => by cases hx)).trans hk2 (fun x hx _ => by simp at hx; simp [hx]))
  have DC := Lib.hid (casN_at w2 p 10 92 _ (hd : Int) (a.tag : Int) (a.ask : Int) (x : Int) (t : Int) R2.out.atC (by omega) (by omega))
  have l2 := R2.out.blk.lt
  clear hM2 hk2 k5
  go_wp2_with fail
  (with_reducible refine DC.out.mono ?_)
  rintro e w3 ⟨rfl, hC3, hk3⟩
  have C3 := Lib.hid hC3.blk
  have K3 := Lib.hid hk3
  clear hC3 hk3
  go_wp2_with fail
  (first | go_ret2 | go_ret)
  refine ⟨rfl, ⟨?_, ?_, R2.out.fr, R2.out.lo, R2.out.po⟩, ?_⟩
  · exact C3.out.cast (late_cells a mp fh lh hd)
  · exact R2.out.mem.keep K3.out (by simp; omega) (by simp; omega)
  · exact K2.out.trans K3.out (fun x hx _ => by simp at hx; simp [hx])
set_option maxRecDepth 100000 in
set_option maxHeartbeats 4000000 in
theorem post_bad (w : World) (p mp g : Nat) (a : PgA) (zs : List Int) (h : PgM w p mp g a zs) (x k t r : Int) (hx : 0 ≤ x) (hr : a.giv x = r) (hr0 : r ≠ 0) :
    Calls Try.prog 20 #[.pointer (some ⟨p, 0, none⟩), .int .u64 x, .int .u64 k, .int .u64 t] w fun e w' => e = .returned (.tuple #[.bool false, .int .i64 r]) ∧ Kept [] w w' := by
  have DG := Lib.hid (given_any w p mp g a zs h x hx r hr)
  have pl := h.lt
  have q0 : (r != 0) = true := by simpa using hr0
  clear h hr
  go_enter Try.func20, Try.ntmps20
  go_wp2_with fail
  (with_reducible refine DG.out.mono ?_)
  rintro e w1 ⟨rfl, hb1⟩
  go_wp2_with fail
  (first | go_ret2 | go_ret)
  exact ⟨rfl, hb1⟩
theorem look_any (w : World) (p mp g : Nat) (a : PgA) (zs : List Int) (fh lh hd : Nat) (hR : PgR w p mp g a zs fh lh hd) (ha : a.ask ≤ 1000000000) :
    Calls Try.prog 19 #[.pointer (some ⟨p, 10, none⟩)] w fun e w' => e = .returned (.tuple #[.int .u64 (hd : Int), .int .u64 (a.tag : Int)]) ∧ PgR w' p mp g a.late zs fh lh hd ∧ Kept [p] w w' := by
  have hne1 := hR.ne1
  have hne2 := hR.ne2
  exact (load_at w p 10 92 _ (hd : Int) (a.tag : Int) (a.ask : Int) hR.atC (by omega)).mono fun e w' ⟨he, hC, hk⟩ => ⟨he, ⟨hC.blk.cast (late_cells a mp fh lh hd), hR.mem.keep hk (by simp; omega) (by simp; omega), hR.fr, hR.lo, hR.po⟩, hk⟩
end Go.Proofs.Ytgiokigokedakaa
