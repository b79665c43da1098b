/- More blocks of a page are made. -/
import Derived.Test.YtgiokigokedakaaPg
import Derived.Deep.RegionHeld3
import Derived.StillTailTactics
import Derived.Deep.DrawnRows
import Derived.RegionTactic
set_option linter.unusedVariables false
set_option linter.unusedSimpArgs false
namespace Go.Proofs.Ytgiokigokedakaa
open Go.RowKit
def PgA.moreN (a : PgA) : Nat := min 4 (a.N - a.made)
def PgA.some_ (a : PgA) (j n : Nat) : List Nat := (List.range' (a.made + j) (n - j)).map a.bl
def PgA.more (a : PgA) : PgA := { a with fr := a.some_ 0 a.moreN, made := a.made + a.moreN }
theorem PgA.some_pred (a : PgA) (j n : Nat) (h : j < n) : a.some_ j n = a.bl (a.made + j) :: a.some_ (j + 1) n := by
  unfold PgA.some_
  rw [show n - j = (n - (j + 1)) + 1 by omega, List.range'_succ, List.map_cons]
  rfl
theorem PgA.mem_some {a : PgA} {j n x : Nat} (h : x ∈ a.some_ j n) : ∃ i, a.made + j ≤ i ∧ i < a.made + n ∧ x = a.bl i := by
  unfold PgA.some_ at h
  obtain ⟨i, hi, rfl⟩ := List.mem_map.1 h
  have := List.mem_range'_1.1 hi
  exact ⟨i, by omega, by omega, rfl⟩
theorem PgOk.more {a : PgA} {len : Nat} (h : PgOk a len) (hf : a.fr = []) : PgOk a.more len := by
  refine ⟨h.run, ?_, ?_⟩
  · show a.made + a.moreN ≤ a.N
    unfold PgA.moreN
    have := h.made
    omega
  · show (a.some_ 0 a.moreN ++ (a.lo ++ (a.po ++ a.us))).Perm ((List.range (a.made + a.moreN)).map a.bl)
    have h1 := h.all
    rw [hf, List.nil_append] at h1
    have e : List.range (a.made + a.moreN) = List.range a.made ++ List.range' (a.made + 0) (a.moreN - 0) := by
      rw [List.range_eq_range', List.range_eq_range']
      have := List.range'_append (s := 0) (m := a.made) (n := a.moreN) (step := 1)
      simpa using this.symm
    rw [e, List.map_append]
    refine List.perm_append_comm.trans ?_
    exact h1.append_right _
set_option maxRecDepth 100000 in
set_option maxHeartbeats 4000000 in
theorem more_any (w : World) (p mp g : Nat) (a : PgA) (zs : List Int) (h : PgM w p mp g a zs) (hf : a.fr = []) :
    Calls Try.prog 36 #[.pointer (some ⟨p, 0, none⟩)] w fun e w' => e = .returned (.int .i64 0) ∧ (∃ zs', PgM w' p mp g a.more zs' ∧ Rest (a.some_ 0 a.moreN) zs zs') ∧ Kept [p, g] w w' := by
  obtain ⟨⟨fh, lh, hd, hR⟩, hok⟩ := h
  have HOK := Lib.hid hok
  have hb := hok.run
  have hmd := hok.made
  obtain ⟨n, hn⟩ : ∃ n, a.moreN = n := ⟨_, rfl⟩
  have HN := Lib.hid hn
  have hn' : n = min 4 (a.N - a.made) := by rw [← hn]; rfl
  have hM : MayP a.F a.Z a.N := by
    have h5 := hb.2.2.2.2
    have hz := hR.lens
    have h6 : ((a.N * a.Z : Nat) : Int) = (a.N : Int) * (a.Z : Int) := by simp
    unfold MayP
    have h7 : a.Z ≤ a.N * a.Z := Nat.le_mul_of_pos_left _ (by omega)
    refine ⟨by omega, by omega, by omega, by omega, by omega, by omega⟩
  have DB : Hid (∀ (w' : World) (i : Nat), a.made + i < a.N → Calls Try.prog 62 #[.agg #[.int .u64 a.F, .int .u64 a.Z, .int .i64 a.N], .int .i64 ((a.made : Int) + (i : Int))] w' fun e w'' => e = .returned (.tuple #[.int .u64 (a.bl (a.made + i) : Int), .int .i64 0]) ∧ Kept [] w' w'') := Lib.hid (fun w' i hi => by
    have := block_any a.F a.Z a.N ((a.made : Int) + (i : Int)) (by omega) (by omega) w'
    have h6 : ((a.bl (a.made + i) : Nat) : Int) = (a.F : Int) + ((a.made : Int) + (i : Int)) * (a.Z : Int) := by unfold PgA.bl; simp
    unfold blkV blkE at this
    rw [if_pos ⟨hM, by omega, by omega⟩, if_pos hM, if_pos ⟨by omega, by omega⟩, ← h6] at this
    exact this)
  have HR := Lib.hid hR
  have hpl := hR.blk.lt
  have k2 := hR.c2
  have k3 := hR.c3
  have q4 : (a.N : Int) ≤ 1024 := by omega
  have q5 : (a.made : Int) ≤ (a.N : Int) := by omega
  obtain ⟨d, hd4⟩ : ∃ d : Int, (a.N : Int) - (a.made : Int) = d := ⟨_, rfl⟩
  have hif : (if d < 4 then d else 4) = (n : Int) := by split <;> omega
  have hn4 : n ≤ 4 := by omega
  have hnN : a.made + n ≤ a.N := by omega
  have F0 : fh = 0 := by have := hR.fr; rw [hf] at this; exact this
  have hlens : a.fr.length = 0 := by rw [hf]; rfl
  obtain ⟨hp, hml⟩ : (p ≠ mp ∧ p ≠ g ∧ mp ≠ g) ∧ zs.length ≤ 1048576 := ⟨⟨hR.ne1, hR.ne2, hR.ne3⟩, hR.lens⟩
  have HP := Lib.hid hp
  have HF := Lib.hid hf
  clear hR hok hM hn hn' hp hf
  go_enter Try.func36, Try.ntmps36
  go_wp2_with fail
  refine wp_region_kept (by kernel_rfl) (by kernel_rfl) ?_
  intro TT FF hne hFF hcl
  have q_c0 := fun x => (hFF x).at_ hpl k2
  have q_c1 := fun x => (hFF x).at_ hpl k3
  repeat (first | go_big_quiet_step (fail) | quiet_step (fail))
  refine wpQuiet_nil ?_
  rintro w1 ⟨x, hx⟩
  have hb1 := hFF x
  rw [← hx] at hb1
  clear hx x hne hFF hcl q_c0 q_c1
  have hs1 := hb1.size
  (try simp only [World.size_alloc, World.size_setCell, World.size_drew, size_drewN] at hs1)
  have HR1 := Lib.hid (HR.out.keep0 hb1)
  have K1 := Lib.hid hb1
  clear hb1 k2 k3 HR
  go_wp2_with fail
  go_loopw [4] (fun v wr => ∃ (j : Nat) (x : Int) (zj : List Int) (fj : Nat), j ≤ n ∧ v = .int .i64 x ∧ x = (j : Int) - 1 ∧ Hid (PgR wr p mp g { a with fr := a.some_ j n } zj fj lh hd) ∧ Hid (Rest (a.some_ j n) zs zj) ∧ Hid (Kept [p, g] w wr)) (fun v _ => (intOf v + 1).toNat)
  case atStart =>
    have e : ({ a with fr := a.some_ n n } : PgA) = a := by
      have h1 : a.some_ n n = [] := by simp [PgA.some_]
      have h2 := HF.out
      cases a
      simp only at h2 h1 ⊢
      rw [h1, h2]
    exact ⟨n, _, zs, fh, Nat.le_refl _, rfl, rfl, Lib.hid (by rw [e]; exact HR1.out), Lib.hid (Rest.mono (Rest.refl [] zs) (fun x hx => by cases hx)), Lib.hid (K1.out.mono (fun x hx _ => by cases hx))⟩
  case round =>
    obtain ⟨j, x, zj, fj, hjn, rfl, hx, hr, hrest, hk⟩ := hrel
    have hrr := hr.out
    have plr := hrr.blk.lt
    have k0 := hrr.c0
    have k1 := hrr.c1
    have k2 := hrr.c2
    have k3 := hrr.c3
    have k5 := hrr.c5
    dsimp only at k0 k1 k2 k3
    clear hrr
    cases j with
    | zero =>
      have hx0 : x = -1 := by omega
      clear hx
      subst hx0
      have f3 := hr.out.blk.frozen 3
      go_wp2_with fail
      go_ret
      refine ⟨rfl, ⟨zj, ⟨⟨fj, lh, hd, ?_⟩, ?_⟩, by rw [HN.out]; exact hrest.out⟩, hk.out.setIn (by simp) _⟩
      · refine ⟨?_, hr.out.mem.far (by have := HP.out.1; simp; omega) (by have := HP.out.2.1; simp; omega) _, ?_, hr.out.lo, hr.out.po⟩
        · exact (hr.out.blk.set_ 3 _).cast (by simp [PgA.cells, PgA.more, HN.out])
        · have := hr.out.fr
          show Chn zj fj (a.some_ 0 a.moreN)
          rw [HN.out]
          exact this
      · have := (HOK.out.more HF.out)
        have hl := hrest.out.1
        rw [hl]
        exact this
    | succ i =>
      have hx0 : x = (i : Int) := by omega
      clear hx
      subst hx0
      have hi4 : (i : Int) < 4 := by omega
      have hin : i < n := by omega
      have hiN : a.made + i < a.N := by omega
      have q6 : (a.made : Int) + (i : Int) ≤ 1024 := by omega
      have DBi := Lib.hid (fun w' => DB.out w' i hiN)
      obtain ⟨b0, b8⟩ := HOK.out.bl_lt hiN
      have hZ := HOK.out.run.2.1
      obtain ⟨X, hX⟩ : ∃ X, a.bl (a.made + i) = X := ⟨_, rfl⟩
      rw [hX] at DBi b0 b8
      have HX := Lib.hid hX
      have hlz := hrest.out.1
      have DP : Hid (∀ w' y c, Kept [] wr w' → w'.cell? ⟨y, 0, none⟩ = some (.int .u64 (X : Int)) → Calls Try.prog 39 #[.pointer (some ⟨p, 6, none⟩), .pointer (some ⟨mp, 0, none⟩), .slice (some ⟨y, 0, none⟩) 1 c] w' fun e w'' => e = .returned (.int .i64 0) ∧ (PgR w'' p mp g { a with fr := a.some_ i n } (splice zj X (bytesOf 8 (fj : Int))) X lh hd ∧ Rest (a.some_ i n) zs (splice zj X (bytesOf 8 (fj : Int)))) ∧ Kept [p, g] w' w'') := Lib.hid (fun w' y c hk' hy => by
        have h8 : X + 8 ≤ zj.length := by omega
        have hfar : ∀ z, z ∈ a.fr ++ (a.lo ++ (a.po ++ a.us)) → X + 8 ≤ z ∨ z + 8 ≤ X := fun z hz => by rw [← HX.out]; exact HOK.out.far_new (by omega) hz
        have hfr : Far X (a.some_ (i + 1) n) := fun z hz => by
          obtain ⟨q, h1, h2, rfl⟩ := PgA.mem_some hz
          rw [← HX.out]
          exact HOK.out.bl_far (by omega)
        refine (pushF w' p mp g { a with fr := a.some_ (i + 1) n } zj fj lh hd X y c (hr.out.keep0 hk') (by simp [PgA.some_]; omega) b0 h8 hfr (fun z hz => hfar z (by simp [hz])) (fun z hz => hfar z (by simp [hz])) hy).mono fun e w'' ⟨he, hp, hkk⟩ => ⟨he, ⟨?_, ?_⟩, hkk⟩
        · rw [PgA.some_pred a i n hin, HX.out]
          exact hp
        · refine Rest.trans (hrest.out.mono (fun z hz => ?_)) ((Rest.splice zj X (fj : Int) h8).mono (fun z hz => ?_))
          · rw [PgA.some_pred a i n hin]; simp [hz]
          · simp at hz
            rw [PgA.some_pred a i n hin, HX.out]
            simp [hz])
      have HRr := Lib.hid hr.out
      clear hX
      go_wp2_with fail
      refine wp_region_kept (by kernel_rfl) (by kernel_rfl) ?_
      intro TT FF hne hFF hcl
      have q_c0 := fun x => (hFF x).at_ plr k0
      have q_c1 := fun x => (hFF x).at_ plr k1
      have q_c2 := fun x => (hFF x).at_ plr k2
      have q_c3 := fun x => (hFF x).at_ plr k3
      repeat (first | go_big_quiet_step ((first | (go_at_call 62; (with_reducible refine kept_call hcl (DBi.out _))))) | quiet_step ((first | (go_at_call 62; (with_reducible refine kept_call hcl (DBi.out _))))))
      refine wpQuiet_nil ?_
      rintro w5 ⟨x, hx⟩
      have hb5 := hFF x
      rw [← hx] at hb5
      clear hx x hne hFF hcl q_c0 q_c1 q_c2 q_c3
      have hs5 := hb5.size
      (try simp only [World.size_alloc, World.size_setCell, World.size_drew, size_drewN] at hs5)
      have k5' := hb5.at_ plr k5
      have p5 : p < w5.heap.size := by omega
      have K5 := Lib.hid hb5
      clear hb5 k0 k1 k2 k3 k5
      go_wp2_with fail
      go_region_held3 (fun w' => w'.cell? ⟨p, 5, none⟩ = some (.pointer (some ⟨mp, 0, none⟩)) ∧ p < w'.heap.size) (first | exact ⟨k5', p5⟩ | exact ⟨v5, v6⟩ | exact ⟨Kept.at_ (w := w5) (by (repeat' (first | (with_reducible exact Kept.refl _ _) | (with_reducible assumption) | (with_reducible refine Kept.then_ (by with_reducible assumption) ?_) | (with_reducible refine Kept.thenS (by with_reducible assumption) ?_) | (with_reducible refine Kept.alloc ?_ _) | (with_reducible refine Kept.drew ?_) | (with_reducible refine Kept.drewN ?_ _) | (with_reducible refine Kept.setNew ?_ ?_ _) | ((try simp only [World.size_alloc, World.size_setCell, World.size_drew, size_drewN] at *); (try dsimp only); omega)))) p5 k5', by simp; omega⟩ | go_keep) ((go_at_call 39; refine (DP.out _ _ _ (by have := K5.out; (repeat' (first | (with_reducible exact Kept.refl _ _) | (with_reducible assumption) | (with_reducible refine Kept.then_ (by with_reducible assumption) ?_) | (with_reducible refine Kept.thenS (by with_reducible assumption) ?_) | (with_reducible refine Kept.alloc ?_ _) | (with_reducible refine Kept.drew ?_) | (with_reducible refine Kept.drewN ?_ _) | (with_reducible refine Kept.setNew ?_ ?_ _) | ((try simp only [World.size_alloc, World.size_setCell, World.size_drew, size_drewN] at *); (try dsimp only); omega)))) (Blk.cell (Blk.drew (Blk.new' _ _ _ (by simp))) 0)).mono ?_; rintro e w6 ⟨rfl, hq6, hk6⟩; have v5 := hq6.1.c5; have v6 := hq6.1.blk.lt; have Q6 := Lib.hid hq6; have K6 := Lib.hid hk6; clear hq6 hk6))
      have KF : Hid (Kept [p, g] w w6) := Lib.hid (K6.out.thenS (by have := K5.out.then_ hk.out; (repeat' (first | (with_reducible exact Kept.refl _ _) | (with_reducible assumption) | (with_reducible refine Kept.then_ (by with_reducible assumption) ?_) | (with_reducible refine Kept.thenS (by with_reducible assumption) ?_) | (with_reducible refine Kept.alloc ?_ _) | (with_reducible refine Kept.drew ?_) | (with_reducible refine Kept.drewN ?_ _) | (with_reducible refine Kept.setNew ?_ ?_ _) | ((try simp only [World.size_alloc, World.size_setCell, World.size_drew, size_drewN] at *); (try dsimp only); omega)))))
      go_wp2_with fail
      go_roundw
      case rel => first | exact ⟨i, _, _, _, by omega, rfl, by go_num, Lib.hid Q6.out.1, Lib.hid Q6.out.2, KF⟩ | ((repeat apply Exists.intro); exact ⟨⟨i, _, _, _, by omega, rfl, by go_num, Lib.hid Q6.out.1, Lib.hid Q6.out.2, KF⟩, rfl⟩)
      case measure => first | (simp [intOf]; done) | (simp [intOf]; omega)
end Go.Proofs.Ytgiokigokedakaa
