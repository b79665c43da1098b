/- Blocks that others post, in any turns of look and post, all come back; who is late looks again. No condition. -/
import Derived.Test.YtgiokigokedakaaPgLists
import Derived.Test.YtgiokigokedakaaTol
import Derived.Test.YtgiokigokedakaaBools
import Derived.Deep.RegionHeld3
import Derived.StillTailTactics
import Derived.Deep.DrawnRows
import Derived.RegionTactic
set_option linter.unusedVariables false
set_option linter.unusedSimpArgs false
namespace Go.Proofs.Ytgiokigokedakaa
open Go.RowKit
theorem ready_tag (a : PgA) : a.ready.tag = a.tag ∧ a.ready.ask = a.ask := by
  unfold PgA.ready PgA.swap
  repeat' split
  all_goals exact ⟨rfl, rfl⟩
def toU (l : List Nat) : List Value := l.map (fun (x : Nat) => Value.int .u64 (x : Int))
theorem toU_app (l m : List Nat) : toU (l ++ m) = toU l ++ toU m := List.map_append
theorem toU_len (l : List Nat) : (toU l).length = l.length := by simp [toU]
theorem toU_one (l : List Nat) : ∀ u ∈ toU l, u.oneCell' = true := by
  intro u hu
  obtain ⟨b, _, rfl⟩ := List.mem_map.1 hu
  rfl
theorem info_u64v : (Try.prog.info? 26).map (fun i => (i.zero, i.size, i.bytes)) = some (some (.int .u64 0), 1, 8) := by kernel_rfl
namespace PagePosts
open Go.RowKit Go.ChangeShapes Go.WideShapes Go.ChangeAt Go.Joins
/-- Two slices, apart. -/
structure Two (B : Nat) (w : World) (v0 v1 : Value) (l0 l1 : List Nat) : Prop where
  h0 : TolV 26 B w v0 (toU l0)
  h1 : TolV 26 B w v1 (toU l1)
  ap : ∀ s, s ∈ own v0 → s ∉ own v1
theorem Two.swap {B : Nat} {w : World} {v0 v1 : Value} {l0 l1 : List Nat} (h : Two B w v0 v1 l0 l1) : Two B w v1 v0 l1 l0 := ⟨h.h1, h.h0, fun s h1 h2 => h.ap s h2 h1⟩
theorem Two.keepS {S : List Nat} {B : Nat} {w w' : World} {v0 v1 : Value} {l0 l1 : List Nat} (h : Two B w v0 v1 l0 l1) (hk : Kept S w w') (hS : ∀ s, s ∈ S → s < B) : Two B w' v0 v1 l0 l1 :=
  ⟨h.h0.keepS hk (fun s hs => .inl (hS s hs)), h.h1.keepS hk (fun s hs => .inl (hS s hs)), h.ap⟩
theorem Two.app {B : Nat} {w w' : World} {v0 v1 v0' : Value} {l0 l1 : List Nat} {x : Nat} (h : Two B w v0 v1 l0 l1) (h1 : TolV 26 B w' v0' (toU l0 ++ [.int .u64 (x : Int)])) (h2 : Kept (own v0) w w') (h3 : ∀ g, g ∈ own v0' → g ∈ own v0 ∨ w.heap.size ≤ g) : Two B w' v0' v1 (l0 ++ [x]) l1 :=
  ⟨by rw [toU_app]; exact h1, h.h1.keepS h2 (fun s hs => .inr (h.ap s hs)), fun s hs hs1 => by
    rcases h3 s hs with h4 | h4
    · exact h.ap s h4 hs1
    · have := (h.h1.lt s hs1).2; omega⟩
theorem Two.cut {B : Nat} {w : World} {v0 v1 v' : Value} {l0 l1 : List Nat} {x : Nat} (h : Two B w v0 v1 (x :: l0) l1) (h1 : TolV 26 B w v' (toU l0)) (h2 : own v' = own v0) : Two B w v' v1 l0 l1 := ⟨h1, h.h1, by rw [h2]; exact h.ap⟩
/-- Where both stand. -/
structure Pst (a : PgA) (hd k n : Nat) (l0 l1 : List Nat) (h0 g0 h1 g1 : Nat) (b0 b1 : Bool) : Prop where
  nd : (l0 ++ l1).Nodup
  us : ∀ x, x ∈ l0 ++ l1 → x ∈ a.us
  po : a.po.length = n
  sum : a.us.length + n = 30
  tg : a.tag ≤ k
  ak : a.ask ≤ k
  s0 : b0 = true → g0 ≤ a.tag ∧ (g0 = a.tag → h0 = hd)
  s1 : b1 = true → g1 ≤ a.tag ∧ (g1 = a.tag → h1 = hd)
  e0 : h0 < 18446744073709551616
  e1 : h1 < 18446744073709551616
namespace Pst
variable {a : PgA} {hd k n x : Nat} {l0 l1 : List Nat} {h0 g0 h1 g1 : Nat} {b0 b1 : Bool}
theorem swap (h : Pst a hd k n l0 l1 h0 g0 h1 g1 b0 b1) : Pst a hd k n l1 l0 h1 g1 h0 g0 b1 b0 :=
  ⟨(List.perm_append_comm.nodup_iff).1 h.nd, fun x hx => h.us x (by simp at hx ⊢; exact hx.symm), h.po, h.sum, h.tg, h.ak, h.s1, h.s0, h.e1, h.e0⟩
theorem few (h : Pst a hd k n l0 l1 h0 g0 h1 g1 b0 b1) : l0.length + l1.length ≤ 30 := by
  have h1 := len_sub h.nd h.us
  have h2 := h.sum
  simp at h1
  omega
theorem idle (h : Pst a hd k n l0 l1 h0 g0 h1 g1 b0 b1) : Pst a hd (k + 1) n l0 l1 h0 g0 h1 g1 b0 b1 :=
  ⟨h.nd, h.us, h.po, h.sum, by have := h.tg; omega, by have := h.ak; omega, h.s0, h.s1, h.e0, h.e1⟩
theorem look (h : Pst a hd k n l0 l1 h0 g0 h1 g1 b0 b1) (h64 : hd < 18446744073709551616) : Pst a.late hd (k + 1) n l0 l1 hd a.tag h1 g1 true b1 :=
  ⟨h.nd, h.us, h.po, h.sum, by have := h.tg; show a.tag ≤ k + 1; omega, by have := h.ak; show a.ask + 1 ≤ k + 1; omega, fun _ => ⟨Nat.le_refl _, fun _ => rfl⟩, h.s1, h64, h.e1⟩
theorem late (h : Pst a hd k n l0 l1 h0 g0 h1 g1 b0 b1) : Pst a.late hd (k + 1) n l0 l1 h0 g0 h1 g1 false b1 :=
  ⟨h.nd, h.us, h.po, h.sum, by have := h.tg; show a.tag ≤ k + 1; omega, by have := h.ak; show a.ask + 1 ≤ k + 1; omega, (fun h => by cases h), h.s1, h.e0, h.e1⟩
theorem post (h : Pst a hd k n (x :: l0) l1 h0 g0 h1 g1 b0 b1) : Pst (a.post x) x (k + 1) (n + 1) l0 l1 h0 g0 h1 g1 false b1 := by
  have hx : x ∈ a.us := h.us x (by simp)
  have hl := List.length_erase_of_mem hx
  have hp : 0 < a.us.length := List.length_pos_of_mem hx
  obtain ⟨n1, n2⟩ := List.nodup_cons.1 h.nd
  refine ⟨n2, fun y hy => (List.mem_erase_of_ne (fun e => n1 (by rw [← e]; exact hy))).2 (h.us y (by simp at hy ⊢; exact .inr hy)), by show a.po.length + 1 = n + 1; rw [h.po], ?_, by have := h.tg; show a.tag + 1 ≤ k + 1; omega, by have := h.ak; show a.ask + 1 ≤ k + 1; omega, (fun h => by cases h), fun hb => ?_, h.e0, h.e1⟩
  · show (a.us.erase x).length + (n + 1) = 30
    have := h.sum
    omega
  · obtain ⟨h2, _⟩ := h.s1 hb
    exact ⟨by show g1 ≤ a.tag + 1; omega, fun h => by have : g1 = a.tag + 1 := h; omega⟩
end Pst
set_option maxRecDepth 100000 in
set_option maxHeartbeats 4000000 in
theorem walk (a0 : Option Addr) (len0 cap0 : Nat) (z0 : Nat → Bool) (x1 : Int) (W : World) (w0 : IsBools W a0 len0 cap0 z0) (w1 : (Lit.int .u8 x1).wf = true) :
    Calls Try.prog 5 #[.slice a0 len0 cap0, .int .u8 x1] W fun e W' => e = .returned (.bool true) ∧ Below W.heap.size W W' := by
  have bx := bounds_u8 w1
  obtain ⟨Z, hZ⟩ : ∃ Z : Nat, (Z : Int) = 16 * (x1 % 16 + 1) := ⟨(16 * (x1 % 16 + 1)).toNat, by omega⟩
  have C1 := Lib.hid (alive_any W)
  have C2 := Lib.hid (fun w => made_any w x1 40 bx (by omega) Z 41 hZ (by omega))
  have HI := Lib.hid w0
  have hl47 : (len0 : Int) ≤ 9223372036854775807 := by
    rcases w0 with ⟨_, rfl, _⟩ | ⟨x, _, h1, h2, _⟩
    · omega
    · unfold maxLen at h2; omega
  clear w0 w1 hZ
  go_enter Try.func5, Try.ntmps5
  go_wp2_with fail
  (with_reducible refine (C1.out).mono ?_)
  rintro e w1 ⟨rfl, hb1⟩
  have hs1 := hb1.size
  (try simp only [World.size_alloc, World.size_setCell, World.size_drew, size_drewN] at hs1)
  go_wp2_with fail
  (with_reducible refine (C2.out _).mono ?_)
  rintro e w2 ⟨p, mp, g, rfl, hP2⟩
  have HB1 := Lib.hid hb1
  have P2 := Lib.hid hP2
  have hlt := hP2.lt
  clear hb1 hP2
  by_cases hq : len0 ≤ 200
  case neg =>
    have q0 : decide (200 < (len0 : Int)) = true := by simp; omega
    go_wp2_with fail
    go_ret
    exact ⟨rfl, (((P2.out.kept.then_ HB1.out)).alloc _).below⟩
  have q0 : (len0 : Int) ≤ 200 := by omega
  have q1 : decide (200 < (len0 : Int)) = false := by simp; omega
  go_wp2_with fail
  obtain ⟨wm, hwm⟩ : ∃ wm, (w2.alloc (.cells #[.int .u64 1024, .int .u64 (Z : Int), .int .i64 41] 28)).alloc (.cells #[.slice none 0 0, .int .u64 0, .int .u64 0, .bool false, .slice none 0 0, .int .u64 0, .int .u64 0, .bool false] 46) = wm := ⟨_, rfl⟩
  have hP3 : PgX w1 wm p mp g (PgA.new 1024 Z 41) := by rw [← hwm]; exact P2.out.keep0 (((Kept.refl [] w2).alloc _).alloc _)
  have hms : wm.heap.size = w2.heap.size + 1 + 1 := by rw [← hwm]; simp
  have T0 : Blk wm (w2.heap.size + 1) 46 #[.slice none 0 0, .int .u64 0, .int .u64 0, .bool false, .slice none 0 0, .int .u64 0, .int .u64 0, .bool false] := by rw [← hwm]; exact Blk.new' _ _ _ (by simp)
  have P3 := Lib.hid hP3
  have HT := Lib.hid T0
  have hW1 := hP3.kept.size
  obtain ⟨B, hB⟩ : ∃ B, wm.heap.size = B := ⟨_, rfl⟩
  obtain ⟨tb, htb⟩ : ∃ tb, w2.heap.size + 1 = tb := ⟨_, rfl⟩
  have HB : Hid (p < tb ∧ mp < tb ∧ g < tb ∧ tb < B ∧ w1.heap.size ≤ tb) := Lib.hid (by have := P2.out.kept.size; omega)
  rw [htb] at HT
  rw [hwm, htb]
  have HBm : Hid (B ≤ wm.heap.size) := Lib.hid (by omega)
  have FN := Lib.hid (Fsh.new 1024 Z 41)
  obtain ⟨bl, hbl⟩ : ∃ bl : Nat → Nat, bl = fun k => 1024 + k * Z := ⟨_, rfl⟩
  have HBL := Lib.hid hbl
  clear hbl hP3 hms T0 hW1 hB htb hwm hlt P2
  go_loopw [40] (fun v wr => ∃ (i : Nat) (a : PgA) (v0 v1 : Value) (l0 l1 : List Nat), i ≤ 30 ∧ v = .int .i64 i ∧ Hid (PgX w1 wr p mp g a) ∧ Hid (Fsh 1024 Z 41 a i) ∧ Hid (a.tag = 0 ∧ a.ask = 0) ∧ Hid (Blk wr tb 46 #[v0, .int .u64 0, .int .u64 0, .bool false, v1, .int .u64 0, .int .u64 0, .bool false]) ∧ Hid (Two B wr v0 v1 l0 l1) ∧ Hid ((l0 ++ l1).Perm ((List.range i).map bl)) ∧ Hid (B ≤ wr.heap.size)) (fun v _ => (30 - intOf v).toNat)
  case atStart => exact ⟨0, _, _, _, [], [], Nat.zero_le _, rfl, P3, FN, Lib.hid ⟨rfl, rfl⟩, HT, Lib.hid ⟨TolV.nil _ _ _, TolV.nil _ _ _, fun s hs => by simp [own, Value.ownBlock] at hs⟩, Lib.hid (List.Perm.refl _), HBm⟩
  case round =>
    obtain ⟨i, a, v0, v1, l0, l1, hin, rfl, hP, hF, hta, hT, hV, hL, hsz⟩ := hrel
    by_cases hi : i < 30
    · obtain ⟨r, hrd, hF'⟩ := hF.out.step (show i < 41 by omega)
      have DA := Lib.hid (x_alloc hP.out _ r hrd)
      have HF' := Lib.hid hF'
      have HTA' : Hid ((a.ready.taken (1024 + i * Z) r).tag = 0 ∧ (a.ready.taken (1024 + i * Z) r).ask = 0) := Lib.hid (by
        obtain ⟨h1, h2⟩ := ready_tag a
        exact ⟨h1.trans hta.out.1, h2.trans hta.out.2⟩)
      have HE : Hid ((List.range (i + 1)).map bl = (List.range i).map bl ++ [1024 + i * Z]) := Lib.hid (by rw [List.range_succ, List.map_append, HBL.out]; rfl)
      have HLEN : Hid (l0.length + l1.length = i) := Lib.hid (by have := hL.out.length_eq; simpa using this)
      generalize 1024 + i * Z = x at *
      have di : decide ((i : Int) < 30) = true := by simp; omega
      clear hrd hF'
      go_wp2_with fail
      (with_reducible refine DA.out.mono ?_)
      rintro e w4 ⟨rfl, hP4, hk4⟩
      have P4 := Lib.hid hP4
      have T4 := Lib.hid (hT.out.keep hk4 (by have := HB.out; simp; omega))
      have V4 := Lib.hid (hV.out.keepS hk4 (fun s hs => by have := HB.out; simp at hs; omega))
      have S4 : Hid (B ≤ w4.heap.size) := Lib.hid (by have := hk4.size; have := hsz.out; omega)
      have c0 := T4.out.cell 0
      have c4 := T4.out.cell 4
      have tl := T4.out.lt
      clear hP4 hk4
      have hp2 : i % 2 = 0 ∨ i % 2 = 1 := by omega
      rcases hp2 with hp2 | hp2
      · have t2 : Int.tmod (i : Int) 2 = 0 := by rw [Int.tmod_eq_emod_of_nonneg (by omega)]; omega
        have t3 : (i : Int) % 2 = 0 := by omega
        have OV := Lib.hid (V4.out.h0)
        have V4' := Lib.hid V4.out
        go_wp2_with (refine app_tol 31 26 (.int .u64 0) 8 Try.underlying31 info_u64v (by omega) rfl rfl (.tmp 56) (.tmp 58) rfl B v0 (toU l0) [.int .u64 (x : Int)] rfl (OV.out.keep0 ((Kept.refl [] w4).alloc _)) _ _ _ rfl rfl (by have := S4.out; simp; omega) (fun _ => ⟨_, rfl, fun i hi => by obtain rfl : i = 0 := (by simpa using hi); exact (Blk.new w4 _ _).cell 0⟩) (fun u hu => by simp at hu; rw [hu]; rfl) (by have := HLEN.out; rw [toU_len]; simp; omega) ?_)
        intro v0' w5 tol5 hk5 own5
        obtain ⟨A5, c5, hv5, _⟩ := tol5.len
        generalize hn5 : (toU l0 ++ [Value.int .u64 (x : Int)]).length = n5 at hv5
        subst hv5
        have S5 : Hid (B ≤ w5.heap.size) := Lib.hid (by have := hk5.size; have := S4.out; simp at *; omega)
        have hne : ∀ s, s ∈ own v0 → B ≤ s := fun s hs => (OV.out.lt s hs).1
        have V5 := Lib.hid ((V4'.out.keepS ((Kept.refl [] w4).alloc _) (fun s hs => by cases hs)).app tol5 hk5 (by simpa using own5))
        have T5 := Lib.hid ((T4.out.alloc _).keep hk5 (fun h => by have := hne _ h; have := HB.out; omega))
        have P5 := Lib.hid (PgX.keepN (P4.out.keep0 ((Kept.refl [] w4).alloc _)) hk5 (show p < B ∧ mp < B ∧ g < B by have := HB.out; omega) hne (by have := HB.out; omega))
        have f5 := T5.out.frozen 0
        have q5 := T5.out.cell 0
        have l5 := T5.out.lt
        clear tol5 hk5 own5 hne c0 c4 tl hn5
        go_wp2_with fail
        have K6 : Hid (Kept [tb] w5 (w5.setCell ⟨tb, 0, none⟩ (.slice A5 n5 c5))) := Lib.hid ((Kept.refl [tb] w5).setIn (by simp) _)
        have P6 := Lib.hid (PgX.keepN P5.out K6.out (show p < tb ∧ mp < tb ∧ g < tb by have := HB.out; omega) (fun s hs => by simp at hs; omega) (by have := HB.out; omega))
        have T6 := Lib.hid (T5.out.set' (i := 0) (u := .slice A5 n5 c5) rfl)
        have V6 := Lib.hid ((V5.out).keepS K6.out (fun s hs => by have := HB.out; simp at hs; omega))
        have S6 : Hid (B ≤ (w5.setCell ⟨tb, 0, none⟩ (.slice A5 n5 c5)).heap.size) := Lib.hid (by have := S5.out; simpa using this)
        have L6 : Hid ((l0 ++ [x] ++ l1).Perm ((List.range (i + 1)).map bl)) := Lib.hid (by
          rw [HE.out]
          refine List.Perm.trans ?_ (hL.out.append_right [x]); rw [List.append_assoc, List.append_assoc]; exact List.Perm.append_left _ List.perm_append_comm)
        go_roundw
        case rel => first | exact ⟨i + 1, _, .slice A5 n5 c5, v1, l0 ++ [x], l1, by omega, by go_num, P6, HF', HTA', T6, V6, L6, S6⟩ | ((repeat apply Exists.intro); exact ⟨⟨i + 1, _, .slice A5 n5 c5, v1, l0 ++ [x], l1, by omega, by go_num, P6, HF', HTA', T6, V6, L6, S6⟩, rfl⟩)
        case measure => simp [intOf]; omega
      · have t2 : Int.tmod (i : Int) 2 = 1 := by rw [Int.tmod_eq_emod_of_nonneg (by omega)]; omega
        have t3 : (i : Int) % 2 = 1 := by omega
        have OV := Lib.hid (V4.out.swap.h0)
        have V4' := Lib.hid V4.out.swap
        go_wp2_with (refine app_tol 31 26 (.int .u64 0) 8 Try.underlying31 info_u64v (by omega) rfl rfl (.tmp 56) (.tmp 58) rfl B v1 (toU l1) [.int .u64 (x : Int)] rfl (OV.out.keep0 ((Kept.refl [] w4).alloc _)) _ _ _ rfl rfl (by have := S4.out; simp; omega) (fun _ => ⟨_, rfl, fun i hi => by obtain rfl : i = 0 := (by simpa using hi); exact (Blk.new w4 _ _).cell 0⟩) (fun u hu => by simp at hu; rw [hu]; rfl) (by have := HLEN.out; rw [toU_len]; simp; omega) ?_)
        intro v1' w5 tol5 hk5 own5
        obtain ⟨A5, c5, hv5, _⟩ := tol5.len
        generalize hn5 : (toU l1 ++ [Value.int .u64 (x : Int)]).length = n5 at hv5
        subst hv5
        have S5 : Hid (B ≤ w5.heap.size) := Lib.hid (by have := hk5.size; have := S4.out; simp at *; omega)
        have hne : ∀ s, s ∈ own v1 → B ≤ s := fun s hs => (OV.out.lt s hs).1
        have V5 := Lib.hid ((V4'.out.keepS ((Kept.refl [] w4).alloc _) (fun s hs => by cases hs)).app tol5 hk5 (by simpa using own5))
        have T5 := Lib.hid ((T4.out.alloc _).keep hk5 (fun h => by have := hne _ h; have := HB.out; omega))
        have P5 := Lib.hid (PgX.keepN (P4.out.keep0 ((Kept.refl [] w4).alloc _)) hk5 (show p < B ∧ mp < B ∧ g < B by have := HB.out; omega) hne (by have := HB.out; omega))
        have f5 := T5.out.frozen 4
        have q5 := T5.out.cell 4
        have l5 := T5.out.lt
        clear tol5 hk5 own5 hne c0 c4 tl hn5
        go_wp2_with fail
        have K6 : Hid (Kept [tb] w5 (w5.setCell ⟨tb, 4, none⟩ (.slice A5 n5 c5))) := Lib.hid ((Kept.refl [tb] w5).setIn (by simp) _)
        have P6 := Lib.hid (PgX.keepN P5.out K6.out (show p < tb ∧ mp < tb ∧ g < tb by have := HB.out; omega) (fun s hs => by simp at hs; omega) (by have := HB.out; omega))
        have T6 := Lib.hid (T5.out.set' (i := 4) (u := .slice A5 n5 c5) rfl)
        have V6 := Lib.hid ((V5.out.swap).keepS K6.out (fun s hs => by have := HB.out; simp at hs; omega))
        have S6 : Hid (B ≤ (w5.setCell ⟨tb, 4, none⟩ (.slice A5 n5 c5)).heap.size) := Lib.hid (by have := S5.out; simpa using this)
        have L6 : Hid ((l0 ++ (l1 ++ [x])).Perm ((List.range (i + 1)).map bl)) := Lib.hid (by
          rw [HE.out]
          rw [← List.append_assoc]; exact hL.out.append_right [x])
        go_roundw
        case rel => first | exact ⟨i + 1, _, v0, .slice A5 n5 c5, l0, l1 ++ [x], by omega, by go_num, P6, HF', HTA', T6, V6, L6, S6⟩ | ((repeat apply Exists.intro); exact ⟨⟨i + 1, _, v0, .slice A5 n5 c5, l0, l1 ++ [x], by omega, by go_num, P6, HF', HTA', T6, V6, L6, S6⟩, rfl⟩)
        case measure => simp [intOf]; omega
    · obtain rfl : i = 30 := by omega
      have hU := hF.out.us
      rw [← HBL.out] at hU
      obtain ⟨hd, hPh⟩ := hP.out.h
      obtain ⟨len, _, hok⟩ := hP.out.ok
      have ST : Hid (Pst a hd 0 0 l0 l1 0 0 0 0 false false) := Lib.hid (by
        have h1 := hok.nodup_us
        have hp := hL.out
        refine ⟨?_, ?_, by rw [hF.out.po]; rfl, by rw [hU]; simp, by rw [hta.out.1]; omega, by rw [hta.out.2]; omega, (fun h => by cases h), (fun h => by cases h), by omega, by omega⟩
        · rw [hU] at h1
          exact hp.nodup_iff.2 ((List.reverse_perm _).nodup_iff.1 h1)
        · intro x hx
          rw [hU]
          simpa using hp.mem_iff.1 hx)
      have PH := Lib.hid hPh
      obtain ⟨wA, hwA⟩ : ∃ wA, wA = wr := ⟨_, rfl⟩
      subst hwA
      clear hU hPh hok hF hta hL hP
      go_wp2_with fail
      go_loopw [65, 13] (fun m n wr => ∃ (k nn : Nat) (a : PgA) (hd : Nat) (v0 v1 : Value) (l0 l1 : List Nat) (h0 g0 h1 g1 : Nat) (b0 b1 : Bool), k ≤ len0 ∧ m = .int .i64 k ∧ n = .int .i64 nn ∧ Hid (PgH w1 wr p mp g a hd) ∧ Hid (Blk wr tb 46 #[v0, .int .u64 (h0 : Int), .int .u64 (g0 : Int), .bool b0, v1, .int .u64 (h1 : Int), .int .u64 (g1 : Int), .bool b1]) ∧ Hid (Two B wr v0 v1 l0 l1) ∧ Hid (Pst a hd k nn l0 l1 h0 g0 h1 g1 b0 b1) ∧ Hid (B ≤ wr.heap.size) ∧ nn ≤ 30) (fun m _ _ => (len0 - intOf m).toNat)
      case atStart => exact ⟨0, 0, a, hd, v0, v1, l0, l1, 0, 0, 0, 0, false, false, Nat.zero_le _, rfl, rfl, PH, hT, hV, ST, hsz, Nat.zero_le _⟩
      case round =>
        clear hT hV hsz PH ST
        clear hin
        obtain ⟨k, nn, a, hd, v0, v1, l0, l1, h0, g0, h1, g1, b0, b1, hk, rfl, rfl, hP, hT, hV, hS, hsz, hnn⟩ := hrel
        by_cases hi : k < len0
        · obtain ⟨xa, rfl, hxl, hxc⟩ := HI.out.get hi
          have zc := hxc wr (hP.out.x.kept.then_ HB1.out)
          have zl : xa.block < wr.heap.size := Nat.lt_of_lt_of_le hxl (hP.out.x.kept.then_ HB1.out).size
          have di : decide ((k : Int) < (len0 : Int)) = true := by simp; omega
          have dk : (0 : Int) ≤ (k : Int) := by omega
          clear hxc
          cases hz : z0 k
          all_goals rw [hz] at zc
          · rcases hl : l0 with _ | ⟨x, r⟩
            · subst hl
              obtain ⟨A, c, hv, _⟩ := hV.out.h0.len
              simp only [toU, List.map_nil, List.length_nil] at hv
              subst hv
              have t0 := hT.out.cell 0
              have tl := hT.out.lt
              have S' := Lib.hid (hS.out.idle)
              go_wp2_with fail
              go_roundw
              case rel => first | exact ⟨k + 1, nn, a, hd, .slice A 0 c, v1, [], l1, h0, g0, h1, g1, b0, b1, by omega, by go_num, rfl, hP, hT, hV, S', hsz, hnn⟩ | ((repeat apply Exists.intro); exact ⟨⟨k + 1, nn, a, hd, .slice A 0 c, v1, [], l1, h0, g0, h1, g1, b0, b1, by omega, by go_num, rfl, hP, hT, hV, S', hsz, hnn⟩, rfl⟩)
              case measure => simp [intOf]; omega
            · subst hl
              obtain ⟨gv, ov, cv, hv, gvB, gvl, nv, mv, fv⟩ := hV.out.h0.first
              simp only [toU, List.length_map] at hv nv fv
              have rl : r.length ≤ 1000 := by have := hS.out.few; simp at this; omega
              have ql : (((r.length : Int) + 1 == 0) : Bool) = false := by rw [beq_eq_false_iff_ne]; omega
              have ql2 : (((r.length + 1 : Nat) : Int) == 0) = false := by rw [beq_eq_false_iff_ne]; omega
              have ql3 : decide (((r.length : Int) + 1 = 0)) = false := by simp; omega
              cases hb : b0
              · subst hb
                subst hv
                have t0 := hT.out.cell 0
                have t3 := hT.out.cell 3
                have tl := hT.out.lt
                have DC := Lib.hid (x_cell hP.out.x)
                have DL := Lib.hid (fun w' (hk : Kept [] wr w') => (hP.out.keep0 hk).look (by have := hS.out.ak; omega))
                have S' := Lib.hid ((hS.out.look (by have := hP.out.hd64; omega)))
                clear fv
                go_wp2_with fail
                (with_reducible refine DC.out.mono ?_)
                rintro e w4 ⟨rfl, hk4⟩
                have K4 := Lib.hid hk4
                have DL4 := Lib.hid (DL.out _ hk4)
                have T4 := Lib.hid (hT.out.keep0 hk4)
                have V4 := Lib.hid (hV.out.keepS hk4 (fun s hs => by cases hs))
                clear hk4 t0 t3
                go_wp2_with fail
                (with_reducible refine DL4.out.mono ?_)
                rintro e w5 ⟨rfl, hP5, hk5⟩
                have P5 := Lib.hid hP5
                have T5 := Lib.hid (T4.out.keep hk5 (by have := HB.out; simp; omega))
                have V5 := Lib.hid (V4.out.keepS hk5 (fun s hs => by have := HB.out; simp at hs; omega))
                have hs45 : Hid (B ≤ w5.heap.size) := Lib.hid (by have := hk5.size; have := K4.out.size; have := hsz.out; omega)
                have q1 := T5.out.cell 1
                have q2 := T5.out.cell 2
                have q3 := T5.out.cell 3
                have f1 := T5.out.frozen 1
                have f2 := T5.out.frozen 2
                have f3 := T5.out.frozen 3
                have tl5 := T5.out.lt
                clear hP5 hk5 tl
                go_wp2_with fail
                have K6 : Hid (Kept [tb] w5 (((w5.setCell ⟨tb, 1, none⟩ (.int .u64 (hd : Int))).setCell ⟨tb, 2, none⟩ (.int .u64 (a.tag : Int))).setCell ⟨tb, 3, none⟩ (.bool true))) := Lib.hid ((((Kept.refl [tb] w5).setIn (by simp) _).setIn (by simp) _).setIn (by simp) _)
                have P6 := Lib.hid (P5.out.keepN K6.out (show p < tb ∧ mp < tb ∧ g < tb by have := HB.out; omega) (fun s hs => by simp at hs; omega) (by have := HB.out; omega))
                have T6 : Hid (Blk _ tb 46 #[.slice (some ⟨gv, ov, none⟩) (r.length + 1) cv, .int .u64 (hd : Int), .int .u64 (a.tag : Int), .bool true, v1, .int .u64 (h1 : Int), .int .u64 (g1 : Int), .bool b1]) := Lib.hid (((T5.out.set_ 1 (.int .u64 (hd : Int))).set_ 2 (.int .u64 (a.tag : Int))).set' (i := 3) (u := .bool true) rfl)
                have V6 := Lib.hid (V5.out.keepS K6.out (fun s hs => by have := HB.out; simp at hs; omega))
                have S6 : Hid (B ≤ (((w5.setCell ⟨tb, 1, none⟩ (.int .u64 (hd : Int))).setCell ⟨tb, 2, none⟩ (.int .u64 (a.tag : Int))).setCell ⟨tb, 3, none⟩ (.bool true)).heap.size) := Lib.hid (by have := hs45.out; simpa using this)
                go_roundw
                case rel => first | exact ⟨k + 1, nn, a.late, hd, .slice (some ⟨gv, ov, none⟩) (r.length + 1) cv, v1, x :: r, l1, hd, a.tag, h1, g1, true, b1, by omega, by go_num, rfl, P6, T6, V6, S', S6, hnn⟩ | ((repeat apply Exists.intro); exact ⟨⟨k + 1, nn, a.late, hd, .slice (some ⟨gv, ov, none⟩) (r.length + 1) cv, v1, x :: r, l1, hd, a.tag, h1, g1, true, b1, by omega, by go_num, rfl, P6, T6, V6, S', S6, hnn⟩, rfl⟩)
                case measure => simp [intOf]; omega
              · subst hb
                have hxu : x ∈ a.us := hS.out.us x (by simp)
                have t0 := hT.out.cell 0
                have t1 := hT.out.cell 1
                have t2 := hT.out.cell 2
                have t3 := hT.out.cell 3
                have tl := hT.out.lt
                have S0 := hS.out.s0 rfl
                by_cases hg : g0 = a.tag
                · obtain ⟨v', hv', hov, hrun⟩ := (hV.out.h0).tail Try.underlying31 (fun w => by simp [go_sem])
                  obtain ⟨A', c', hw', _⟩ := hv'.len
                  have hh : h0 = hd := S0.2 hg
                  have V' := Lib.hid (hV.out.cut hv' hov)
                  have S' := Lib.hid ((hS.out.post))
                  have DP := Lib.hid (fun w' (hk : Kept [] wr w') => (hP.out.keep0 hk).post x hxu (by have := hS.out.tg; omega) (by have := hS.out.ak; omega))
                  have hrl : (List.map (fun (x : Nat) => Value.int .u64 (x : Int)) r).length = r.length := by simp
                  simp only [toU, hrl] at hw'
                  subst hw' hv hh hg
                  have hrun' := hrun
                  clear hrl hv' hov S0 hrun
                  go_wp2_with fail
                  go_region_held3 (fun w' => w'.cell? ⟨tb, 0, none⟩ = some (.slice (some ⟨gv, ov, none⟩) (r.length + 1) cv) ∧ w'.cell? ⟨gv, ov, none⟩ = some (.int .u64 (x : Int)) ∧ w'.cell? ⟨tb, 1, none⟩ = some (.int .u64 (h0 : Int)) ∧ w'.cell? ⟨tb, 2, none⟩ = some (.int .u64 (a.tag : Int)) ∧ tb < w'.heap.size ∧ gv < w'.heap.size) (first | exact ⟨t0, fv, t1, t2, tl, gvl⟩ | exact ⟨u0, uv, u1, u2, ul, uvl⟩ | go_keep) ((go_at_call 20; refine (DP.out _ (by (repeat' (first | (with_reducible exact Kept.refl _ _) | (with_reducible assumption) | (with_reducible refine Kept.then_ (by with_reducible assumption) ?_) | (with_reducible refine Kept.thenS (by with_reducible assumption) ?_) | (with_reducible refine Kept.alloc ?_ _) | (with_reducible refine Kept.drew ?_) | (with_reducible refine Kept.drewN ?_ _) | (with_reducible refine Kept.setNew ?_ ?_ _) | ((try simp only [World.size_alloc, World.size_setCell, World.size_drew, size_drewN] at *); (try dsimp only); omega))))).mono ?_; rintro e w5 ⟨rfl, hP5, hk5⟩; have K5 : Kept [p, g] wr w5 := Kept.trans (S := [p, g]) (T := [p, g]) (Kept.mono (S := []) (by (repeat' (first | (with_reducible exact Kept.refl _ _) | (with_reducible assumption) | (with_reducible refine Kept.then_ (by with_reducible assumption) ?_) | (with_reducible refine Kept.thenS (by with_reducible assumption) ?_) | (with_reducible refine Kept.alloc ?_ _) | (with_reducible refine Kept.drew ?_) | (with_reducible refine Kept.drewN ?_ _) | (with_reducible refine Kept.setNew ?_ ?_ _) | ((try simp only [World.size_alloc, World.size_setCell, World.size_drew, size_drewN] at *); (try dsimp only); omega)))) (fun x hx _ => by cases hx)) hk5 (fun x hx _ => hx); have T5 := hT.out.keep K5 (by have := HB.out; simp; omega); have u0 := T5.cell 0; have u1 := T5.cell 1; have u2 := T5.cell 2; have ul := T5.lt; have uv := (World.cell?_of_block (a := ⟨gv, ov, none⟩) (K5.block gv gvl (by have := HB.out; simp; omega))).trans fv; have uvl := Nat.lt_of_lt_of_le gvl K5.size))
                  have P5 := Lib.hid hP5
                  have HT5 := Lib.hid T5
                  have V5 := Lib.hid (V'.out.keepS K5 (fun s hs => by have := HB.out; simp at hs; omega))
                  have hs45 : Hid (B ≤ w5.heap.size) := Lib.hid (by have := K5.size; have := hsz.out; omega)
                  have u3 := T5.cell 3
                  have f0 := T5.frozen 0
                  have f3 := T5.frozen 3
                  have nw : IntKind.i64.wrap ((nn : Int) + 1) = (nn : Int) + 1 := IntWalk.i64_in _ (by omega)
                  have nn' : nn + 1 ≤ 30 := by have := S'.out.sum; omega
                  clear hP5 hk5 K5 T5 u1 u2 uv uvl t0 t1 t2 t3 tl gvl fv
                  go_wp2_with fail
                  have K6 : Hid (Kept [tb] w5 ((w5.setCell ⟨tb, 0, none⟩ (.slice A' r.length c')).setCell ⟨tb, 3, none⟩ (.bool false))) := Lib.hid (((Kept.refl [tb] w5).setIn (by simp) _).setIn (by simp) _)
                  have P6 := Lib.hid (P5.out.keepN K6.out (show p < tb ∧ mp < tb ∧ g < tb by have := HB.out; omega) (fun s hs => by simp at hs; omega) (by have := HB.out; omega))
                  have T6 : Hid (Blk _ tb 46 #[.slice A' r.length c', .int .u64 (h0 : Int), .int .u64 (a.tag : Int), .bool false, v1, .int .u64 (h1 : Int), .int .u64 (g1 : Int), .bool b1]) := Lib.hid ((HT5.out.set_ 0 (.slice A' r.length c')).set' (i := 3) (u := .bool false) rfl)
                  have V6 := Lib.hid ((V5.out).keepS K6.out (fun s hs => by have := HB.out; simp at hs; omega))
                  have S6 : Hid (B ≤ ((w5.setCell ⟨tb, 0, none⟩ (.slice A' r.length c')).setCell ⟨tb, 3, none⟩ (.bool false)).heap.size) := Lib.hid (by have := hs45.out; simpa using this)
                  go_roundw
                  case rel => first | exact ⟨k + 1, nn + 1, a.post x, x, .slice A' r.length c', v1, r, l1, h0, a.tag, h1, g1, false, b1, by omega, by go_num, by go_num, P6, T6, V6, S', S6, nn'⟩ | ((repeat apply Exists.intro); exact ⟨⟨k + 1, nn + 1, a.post x, x, .slice A' r.length c', v1, r, l1, h0, a.tag, h1, g1, false, b1, by omega, by go_num, by go_num, P6, T6, V6, S', S6, nn'⟩, rfl⟩)
                  case measure => simp [intOf]; omega
                · have S' := Lib.hid ((hS.out.late))
                  have DP := Lib.hid (fun w' (hk : Kept [] wr w') => (hP.out.keep0 hk).late x g0 h0 hxu (by have := hS.out.e0; omega) (fun h => hg h.symm) (by have := hS.out.ak; omega))
                  subst hv
                  clear S0 hg
                  go_wp2_with fail
                  go_region_held3 (fun w' => w'.cell? ⟨tb, 0, none⟩ = some (.slice (some ⟨gv, ov, none⟩) (r.length + 1) cv) ∧ w'.cell? ⟨gv, ov, none⟩ = some (.int .u64 (x : Int)) ∧ w'.cell? ⟨tb, 1, none⟩ = some (.int .u64 (h0 : Int)) ∧ w'.cell? ⟨tb, 2, none⟩ = some (.int .u64 (g0 : Int)) ∧ tb < w'.heap.size ∧ gv < w'.heap.size) (first | exact ⟨t0, fv, t1, t2, tl, gvl⟩ | exact ⟨u0, uv, u1, u2, ul, uvl⟩ | go_keep) ((go_at_call 20; refine (DP.out _ (by (repeat' (first | (with_reducible exact Kept.refl _ _) | (with_reducible assumption) | (with_reducible refine Kept.then_ (by with_reducible assumption) ?_) | (with_reducible refine Kept.thenS (by with_reducible assumption) ?_) | (with_reducible refine Kept.alloc ?_ _) | (with_reducible refine Kept.drew ?_) | (with_reducible refine Kept.drewN ?_ _) | (with_reducible refine Kept.setNew ?_ ?_ _) | ((try simp only [World.size_alloc, World.size_setCell, World.size_drew, size_drewN] at *); (try dsimp only); omega))))).mono ?_; rintro e w5 ⟨rfl, hP5, hk5⟩; have K5 : Kept [p, g] wr w5 := Kept.trans (S := [p, g]) (T := [p, g]) (Kept.mono (S := []) (by (repeat' (first | (with_reducible exact Kept.refl _ _) | (with_reducible assumption) | (with_reducible refine Kept.then_ (by with_reducible assumption) ?_) | (with_reducible refine Kept.thenS (by with_reducible assumption) ?_) | (with_reducible refine Kept.alloc ?_ _) | (with_reducible refine Kept.drew ?_) | (with_reducible refine Kept.drewN ?_ _) | (with_reducible refine Kept.setNew ?_ ?_ _) | ((try simp only [World.size_alloc, World.size_setCell, World.size_drew, size_drewN] at *); (try dsimp only); omega)))) (fun x hx _ => by cases hx)) hk5 (fun x hx _ => hx); have T5 := hT.out.keep K5 (by have := HB.out; simp; omega); have u0 := T5.cell 0; have u1 := T5.cell 1; have u2 := T5.cell 2; have ul := T5.lt; have uv := (World.cell?_of_block (a := ⟨gv, ov, none⟩) (K5.block gv gvl (by have := HB.out; simp; omega))).trans fv; have uvl := Nat.lt_of_lt_of_le gvl K5.size))
                  have P5 := Lib.hid hP5
                  have HT5 := Lib.hid T5
                  have V5 := Lib.hid (hV.out.keepS K5 (fun s hs => by have := HB.out; simp at hs; omega))
                  have hs45 : Hid (B ≤ w5.heap.size) := Lib.hid (by have := K5.size; have := hsz.out; omega)
                  have u3 := T5.cell 3
                  have f3 := T5.frozen 3
                  clear hP5 hk5 K5 T5 u1 u2 uv uvl t0 t1 t2 t3 tl gvl fv
                  go_wp2_with fail
                  have K6 : Hid (Kept [tb] w5 (w5.setCell ⟨tb, 3, none⟩ (.bool false))) := Lib.hid ((Kept.refl [tb] w5).setIn (by simp) _)
                  have P6 := Lib.hid (P5.out.keepN K6.out (show p < tb ∧ mp < tb ∧ g < tb by have := HB.out; omega) (fun s hs => by simp at hs; omega) (by have := HB.out; omega))
                  have T6 := Lib.hid (HT5.out.set' (i := 3) (u := .bool false) rfl)
                  have V6 := Lib.hid (V5.out.keepS K6.out (fun s hs => by have := HB.out; simp at hs; omega))
                  have S6 : Hid (B ≤ (w5.setCell ⟨tb, 3, none⟩ (.bool false)).heap.size) := Lib.hid (by have := hs45.out; simpa using this)
                  go_roundw
                  case rel => first | exact ⟨k + 1, nn, a.late, hd, .slice (some ⟨gv, ov, none⟩) (r.length + 1) cv, v1, x :: r, l1, h0, g0, h1, g1, false, b1, by omega, by go_num, rfl, P6, T6, V6, S', S6, hnn⟩ | ((repeat apply Exists.intro); exact ⟨⟨k + 1, nn, a.late, hd, .slice (some ⟨gv, ov, none⟩) (r.length + 1) cv, v1, x :: r, l1, h0, g0, h1, g1, false, b1, by omega, by go_num, rfl, P6, T6, V6, S', S6, hnn⟩, rfl⟩)
                  case measure => simp [intOf]; omega
          · rcases hl : l1 with _ | ⟨x, r⟩
            · subst hl
              obtain ⟨A, c, hv, _⟩ := hV.out.h1.len
              simp only [toU, List.map_nil, List.length_nil] at hv
              subst hv
              have t0 := hT.out.cell 4
              have tl := hT.out.lt
              have S' := Lib.hid (hS.out.idle)
              go_wp2_with fail
              go_roundw
              case rel => first | exact ⟨k + 1, nn, a, hd, v0, .slice A 0 c, l0, [], h0, g0, h1, g1, b0, b1, by omega, by go_num, rfl, hP, hT, hV, S', hsz, hnn⟩ | ((repeat apply Exists.intro); exact ⟨⟨k + 1, nn, a, hd, v0, .slice A 0 c, l0, [], h0, g0, h1, g1, b0, b1, by omega, by go_num, rfl, hP, hT, hV, S', hsz, hnn⟩, rfl⟩)
              case measure => simp [intOf]; omega
            · subst hl
              obtain ⟨gv, ov, cv, hv, gvB, gvl, nv, mv, fv⟩ := hV.out.h1.first
              simp only [toU, List.length_map] at hv nv fv
              have rl : r.length ≤ 1000 := by have := hS.out.few; simp at this; omega
              have ql : (((r.length : Int) + 1 == 0) : Bool) = false := by rw [beq_eq_false_iff_ne]; omega
              have ql2 : (((r.length + 1 : Nat) : Int) == 0) = false := by rw [beq_eq_false_iff_ne]; omega
              have ql3 : decide (((r.length : Int) + 1 = 0)) = false := by simp; omega
              cases hb : b1
              · subst hb
                subst hv
                have t0 := hT.out.cell 4
                have t3 := hT.out.cell 7
                have tl := hT.out.lt
                have DC := Lib.hid (x_cell hP.out.x)
                have DL := Lib.hid (fun w' (hk : Kept [] wr w') => (hP.out.keep0 hk).look (by have := hS.out.ak; omega))
                have S' := Lib.hid ((hS.out.swap.look (by have := hP.out.hd64; omega)).swap)
                clear fv
                go_wp2_with fail
                (with_reducible refine DC.out.mono ?_)
                rintro e w4 ⟨rfl, hk4⟩
                have K4 := Lib.hid hk4
                have DL4 := Lib.hid (DL.out _ hk4)
                have T4 := Lib.hid (hT.out.keep0 hk4)
                have V4 := Lib.hid (hV.out.keepS hk4 (fun s hs => by cases hs))
                clear hk4 t0 t3
                go_wp2_with fail
                (with_reducible refine DL4.out.mono ?_)
                rintro e w5 ⟨rfl, hP5, hk5⟩
                have P5 := Lib.hid hP5
                have T5 := Lib.hid (T4.out.keep hk5 (by have := HB.out; simp; omega))
                have V5 := Lib.hid (V4.out.keepS hk5 (fun s hs => by have := HB.out; simp at hs; omega))
                have hs45 : Hid (B ≤ w5.heap.size) := Lib.hid (by have := hk5.size; have := K4.out.size; have := hsz.out; omega)
                have q1 := T5.out.cell 5
                have q2 := T5.out.cell 6
                have q3 := T5.out.cell 7
                have f1 := T5.out.frozen 5
                have f2 := T5.out.frozen 6
                have f3 := T5.out.frozen 7
                have tl5 := T5.out.lt
                clear hP5 hk5 tl
                go_wp2_with fail
                have K6 : Hid (Kept [tb] w5 (((w5.setCell ⟨tb, 5, none⟩ (.int .u64 (hd : Int))).setCell ⟨tb, 6, none⟩ (.int .u64 (a.tag : Int))).setCell ⟨tb, 7, none⟩ (.bool true))) := Lib.hid ((((Kept.refl [tb] w5).setIn (by simp) _).setIn (by simp) _).setIn (by simp) _)
                have P6 := Lib.hid (P5.out.keepN K6.out (show p < tb ∧ mp < tb ∧ g < tb by have := HB.out; omega) (fun s hs => by simp at hs; omega) (by have := HB.out; omega))
                have T6 : Hid (Blk _ tb 46 #[v0, .int .u64 (h0 : Int), .int .u64 (g0 : Int), .bool b0, .slice (some ⟨gv, ov, none⟩) (r.length + 1) cv, .int .u64 (hd : Int), .int .u64 (a.tag : Int), .bool true]) := Lib.hid (((T5.out.set_ 5 (.int .u64 (hd : Int))).set_ 6 (.int .u64 (a.tag : Int))).set' (i := 7) (u := .bool true) rfl)
                have V6 := Lib.hid (V5.out.keepS K6.out (fun s hs => by have := HB.out; simp at hs; omega))
                have S6 : Hid (B ≤ (((w5.setCell ⟨tb, 5, none⟩ (.int .u64 (hd : Int))).setCell ⟨tb, 6, none⟩ (.int .u64 (a.tag : Int))).setCell ⟨tb, 7, none⟩ (.bool true)).heap.size) := Lib.hid (by have := hs45.out; simpa using this)
                go_roundw
                case rel => first | exact ⟨k + 1, nn, a.late, hd, v0, .slice (some ⟨gv, ov, none⟩) (r.length + 1) cv, l0, x :: r, h0, g0, hd, a.tag, b0, true, by omega, by go_num, rfl, P6, T6, V6, S', S6, hnn⟩ | ((repeat apply Exists.intro); exact ⟨⟨k + 1, nn, a.late, hd, v0, .slice (some ⟨gv, ov, none⟩) (r.length + 1) cv, l0, x :: r, h0, g0, hd, a.tag, b0, true, by omega, by go_num, rfl, P6, T6, V6, S', S6, hnn⟩, rfl⟩)
                case measure => simp [intOf]; omega
              · subst hb
                have hxu : x ∈ a.us := hS.out.us x (by simp)
                have t0 := hT.out.cell 4
                have t1 := hT.out.cell 5
                have t2 := hT.out.cell 6
                have t3 := hT.out.cell 7
                have tl := hT.out.lt
                have S0 := hS.out.swap.s0 rfl
                by_cases hg : g1 = a.tag
                · obtain ⟨v', hv', hov, hrun⟩ := (hV.out.swap.h0).tail Try.underlying31 (fun w => by simp [go_sem])
                  obtain ⟨A', c', hw', _⟩ := hv'.len
                  have hh : h1 = hd := S0.2 hg
                  have V' := Lib.hid (hV.out.swap.cut hv' hov)
                  have S' := Lib.hid ((hS.out.swap.post).swap)
                  have DP := Lib.hid (fun w' (hk : Kept [] wr w') => (hP.out.keep0 hk).post x hxu (by have := hS.out.tg; omega) (by have := hS.out.ak; omega))
                  have hrl : (List.map (fun (x : Nat) => Value.int .u64 (x : Int)) r).length = r.length := by simp
                  simp only [toU, hrl] at hw'
                  subst hw' hv hh hg
                  have hrun' := hrun
                  clear hrl hv' hov S0 hrun
                  go_wp2_with fail
                  go_region_held3 (fun w' => w'.cell? ⟨tb, 4, none⟩ = some (.slice (some ⟨gv, ov, none⟩) (r.length + 1) cv) ∧ w'.cell? ⟨gv, ov, none⟩ = some (.int .u64 (x : Int)) ∧ w'.cell? ⟨tb, 5, none⟩ = some (.int .u64 (h1 : Int)) ∧ w'.cell? ⟨tb, 6, none⟩ = some (.int .u64 (a.tag : Int)) ∧ tb < w'.heap.size ∧ gv < w'.heap.size) (first | exact ⟨t0, fv, t1, t2, tl, gvl⟩ | exact ⟨u0, uv, u1, u2, ul, uvl⟩ | go_keep) ((go_at_call 20; refine (DP.out _ (by (repeat' (first | (with_reducible exact Kept.refl _ _) | (with_reducible assumption) | (with_reducible refine Kept.then_ (by with_reducible assumption) ?_) | (with_reducible refine Kept.thenS (by with_reducible assumption) ?_) | (with_reducible refine Kept.alloc ?_ _) | (with_reducible refine Kept.drew ?_) | (with_reducible refine Kept.drewN ?_ _) | (with_reducible refine Kept.setNew ?_ ?_ _) | ((try simp only [World.size_alloc, World.size_setCell, World.size_drew, size_drewN] at *); (try dsimp only); omega))))).mono ?_; rintro e w5 ⟨rfl, hP5, hk5⟩; have K5 : Kept [p, g] wr w5 := Kept.trans (S := [p, g]) (T := [p, g]) (Kept.mono (S := []) (by (repeat' (first | (with_reducible exact Kept.refl _ _) | (with_reducible assumption) | (with_reducible refine Kept.then_ (by with_reducible assumption) ?_) | (with_reducible refine Kept.thenS (by with_reducible assumption) ?_) | (with_reducible refine Kept.alloc ?_ _) | (with_reducible refine Kept.drew ?_) | (with_reducible refine Kept.drewN ?_ _) | (with_reducible refine Kept.setNew ?_ ?_ _) | ((try simp only [World.size_alloc, World.size_setCell, World.size_drew, size_drewN] at *); (try dsimp only); omega)))) (fun x hx _ => by cases hx)) hk5 (fun x hx _ => hx); have T5 := hT.out.keep K5 (by have := HB.out; simp; omega); have u0 := T5.cell 4; have u1 := T5.cell 5; have u2 := T5.cell 6; have ul := T5.lt; have uv := (World.cell?_of_block (a := ⟨gv, ov, none⟩) (K5.block gv gvl (by have := HB.out; simp; omega))).trans fv; have uvl := Nat.lt_of_lt_of_le gvl K5.size))
                  have P5 := Lib.hid hP5
                  have HT5 := Lib.hid T5
                  have V5 := Lib.hid (V'.out.keepS K5 (fun s hs => by have := HB.out; simp at hs; omega))
                  have hs45 : Hid (B ≤ w5.heap.size) := Lib.hid (by have := K5.size; have := hsz.out; omega)
                  have u3 := T5.cell 7
                  have f0 := T5.frozen 4
                  have f3 := T5.frozen 7
                  have nw : IntKind.i64.wrap ((nn : Int) + 1) = (nn : Int) + 1 := IntWalk.i64_in _ (by omega)
                  have nn' : nn + 1 ≤ 30 := by have := S'.out.sum; omega
                  clear hP5 hk5 K5 T5 u1 u2 uv uvl t0 t1 t2 t3 tl gvl fv
                  go_wp2_with fail
                  have K6 : Hid (Kept [tb] w5 ((w5.setCell ⟨tb, 4, none⟩ (.slice A' r.length c')).setCell ⟨tb, 7, none⟩ (.bool false))) := Lib.hid (((Kept.refl [tb] w5).setIn (by simp) _).setIn (by simp) _)
                  have P6 := Lib.hid (P5.out.keepN K6.out (show p < tb ∧ mp < tb ∧ g < tb by have := HB.out; omega) (fun s hs => by simp at hs; omega) (by have := HB.out; omega))
                  have T6 : Hid (Blk _ tb 46 #[v0, .int .u64 (h0 : Int), .int .u64 (g0 : Int), .bool b0, .slice A' r.length c', .int .u64 (h1 : Int), .int .u64 (a.tag : Int), .bool false]) := Lib.hid ((HT5.out.set_ 4 (.slice A' r.length c')).set' (i := 7) (u := .bool false) rfl)
                  have V6 := Lib.hid ((V5.out.swap).keepS K6.out (fun s hs => by have := HB.out; simp at hs; omega))
                  have S6 : Hid (B ≤ ((w5.setCell ⟨tb, 4, none⟩ (.slice A' r.length c')).setCell ⟨tb, 7, none⟩ (.bool false)).heap.size) := Lib.hid (by have := hs45.out; simpa using this)
                  go_roundw
                  case rel => first | exact ⟨k + 1, nn + 1, a.post x, x, v0, .slice A' r.length c', l0, r, h0, g0, h1, a.tag, b0, false, by omega, by go_num, by go_num, P6, T6, V6, S', S6, nn'⟩ | ((repeat apply Exists.intro); exact ⟨⟨k + 1, nn + 1, a.post x, x, v0, .slice A' r.length c', l0, r, h0, g0, h1, a.tag, b0, false, by omega, by go_num, by go_num, P6, T6, V6, S', S6, nn'⟩, rfl⟩)
                  case measure => simp [intOf]; omega
                · have S' := Lib.hid ((hS.out.swap.late).swap)
                  have DP := Lib.hid (fun w' (hk : Kept [] wr w') => (hP.out.keep0 hk).late x g1 h1 hxu (by have := hS.out.swap.e0; omega) (fun h => hg h.symm) (by have := hS.out.ak; omega))
                  subst hv
                  clear S0 hg
                  go_wp2_with fail
                  go_region_held3 (fun w' => w'.cell? ⟨tb, 4, none⟩ = some (.slice (some ⟨gv, ov, none⟩) (r.length + 1) cv) ∧ w'.cell? ⟨gv, ov, none⟩ = some (.int .u64 (x : Int)) ∧ w'.cell? ⟨tb, 5, none⟩ = some (.int .u64 (h1 : Int)) ∧ w'.cell? ⟨tb, 6, none⟩ = some (.int .u64 (g1 : Int)) ∧ tb < w'.heap.size ∧ gv < w'.heap.size) (first | exact ⟨t0, fv, t1, t2, tl, gvl⟩ | exact ⟨u0, uv, u1, u2, ul, uvl⟩ | go_keep) ((go_at_call 20; refine (DP.out _ (by (repeat' (first | (with_reducible exact Kept.refl _ _) | (with_reducible assumption) | (with_reducible refine Kept.then_ (by with_reducible assumption) ?_) | (with_reducible refine Kept.thenS (by with_reducible assumption) ?_) | (with_reducible refine Kept.alloc ?_ _) | (with_reducible refine Kept.drew ?_) | (with_reducible refine Kept.drewN ?_ _) | (with_reducible refine Kept.setNew ?_ ?_ _) | ((try simp only [World.size_alloc, World.size_setCell, World.size_drew, size_drewN] at *); (try dsimp only); omega))))).mono ?_; rintro e w5 ⟨rfl, hP5, hk5⟩; have K5 : Kept [p, g] wr w5 := Kept.trans (S := [p, g]) (T := [p, g]) (Kept.mono (S := []) (by (repeat' (first | (with_reducible exact Kept.refl _ _) | (with_reducible assumption) | (with_reducible refine Kept.then_ (by with_reducible assumption) ?_) | (with_reducible refine Kept.thenS (by with_reducible assumption) ?_) | (with_reducible refine Kept.alloc ?_ _) | (with_reducible refine Kept.drew ?_) | (with_reducible refine Kept.drewN ?_ _) | (with_reducible refine Kept.setNew ?_ ?_ _) | ((try simp only [World.size_alloc, World.size_setCell, World.size_drew, size_drewN] at *); (try dsimp only); omega)))) (fun x hx _ => by cases hx)) hk5 (fun x hx _ => hx); have T5 := hT.out.keep K5 (by have := HB.out; simp; omega); have u0 := T5.cell 4; have u1 := T5.cell 5; have u2 := T5.cell 6; have ul := T5.lt; have uv := (World.cell?_of_block (a := ⟨gv, ov, none⟩) (K5.block gv gvl (by have := HB.out; simp; omega))).trans fv; have uvl := Nat.lt_of_lt_of_le gvl K5.size))
                  have P5 := Lib.hid hP5
                  have HT5 := Lib.hid T5
                  have V5 := Lib.hid (hV.out.keepS K5 (fun s hs => by have := HB.out; simp at hs; omega))
                  have hs45 : Hid (B ≤ w5.heap.size) := Lib.hid (by have := K5.size; have := hsz.out; omega)
                  have u3 := T5.cell 7
                  have f3 := T5.frozen 7
                  clear hP5 hk5 K5 T5 u1 u2 uv uvl t0 t1 t2 t3 tl gvl fv
                  go_wp2_with fail
                  have K6 : Hid (Kept [tb] w5 (w5.setCell ⟨tb, 7, none⟩ (.bool false))) := Lib.hid ((Kept.refl [tb] w5).setIn (by simp) _)
                  have P6 := Lib.hid (P5.out.keepN K6.out (show p < tb ∧ mp < tb ∧ g < tb by have := HB.out; omega) (fun s hs => by simp at hs; omega) (by have := HB.out; omega))
                  have T6 := Lib.hid (HT5.out.set' (i := 7) (u := .bool false) rfl)
                  have V6 := Lib.hid (V5.out.keepS K6.out (fun s hs => by have := HB.out; simp at hs; omega))
                  have S6 : Hid (B ≤ (w5.setCell ⟨tb, 7, none⟩ (.bool false)).heap.size) := Lib.hid (by have := hs45.out; simpa using this)
                  go_roundw
                  case rel => first | exact ⟨k + 1, nn, a.late, hd, v0, .slice (some ⟨gv, ov, none⟩) (r.length + 1) cv, l0, x :: r, h0, g0, h1, g1, b0, false, by omega, by go_num, rfl, P6, T6, V6, S', S6, hnn⟩ | ((repeat apply Exists.intro); exact ⟨⟨k + 1, nn, a.late, hd, v0, .slice (some ⟨gv, ov, none⟩) (r.length + 1) cv, l0, x :: r, h0, g0, h1, g1, b0, false, by omega, by go_num, rfl, P6, T6, V6, S', S6, hnn⟩, rfl⟩)
                  case measure => simp [intOf]; omega
        · obtain rfl : k = len0 := by omega
          have hpo : (a.po.length : Int) = (nn : Int) := by have := hS.out.po; omega
          have DG := Lib.hid (x_gather hP.out.x (nn : Int) hpo (by have := hS.out.tg; omega) (by have := hS.out.ak; omega))
          have DG2 := Lib.hid (fun w' (h : PgX w1 w' p mp g a.gath) => x_gather h 0 rfl (show a.tag + 1 ≤ 1000000000 by have := hS.out.tg; omega) (show a.ask + 1 ≤ 1000000000 by have := hS.out.ak; omega))
          have DU := Lib.hid (fun w' (h : PgX w1 w' p mp g a.gath.gath) => x_used h (30 - (nn : Int)) (by
            have h1 := hS.out.sum
            show ((0 : Nat) : Int) + (a.us.length : Int) = _
            omega))
          have di : decide ((k : Int) < (k : Int)) = false := by simp
          have e1 : (((nn : Int) == (nn : Int)) : Bool) = true := by simp
          have e2 : (((30 - (nn : Int)) == (30 - (nn : Int))) : Bool) = true := by simp
          have nw : IntKind.i64.wrap (30 - (nn : Int)) = 30 - (nn : Int) := IntWalk.i64_in _ (by omega)
          clear hpo
          go_wp2_with fail
          (with_reducible refine DG.out.mono ?_)
          rintro e w4 ⟨rfl, hP4, hk4⟩
          have DG4 := Lib.hid (DG2.out _ hP4)
          clear hP4 hk4
          go_wp2_with fail
          (with_reducible refine DG4.out.mono ?_)
          rintro e w5 ⟨rfl, hP5, hk5⟩
          have DU5 := Lib.hid (DU.out _ hP5)
          have K5 := Lib.hid (hP5.kept.then_ HB1.out)
          clear hP5 hk5
          go_wp2_with fail
          (with_reducible refine DU5.out.mono ?_)
          rintro e w6 ⟨rfl, hk6⟩
          go_wp2_with fail
          go_ret
          exact ⟨rfl, (hk6.then_ K5.out).below⟩
theorem own : ownKnob Try.prog.godebug = none := by kernel_rfl
theorem laidOut : laidOutB Try.prog = true := by kernel_rfl
set_option maxRecDepth 100000 in
theorem lifted (os : Os) (started : os.Started) (H : Type) (enc : TypeId × Value → H) :
    ReturnsInHanded {} Try.checked os 5 .any (Rows.pagePostsSpec.pre6 enc Try.prog Try.f5 Rows.pagePostsRow.domain false) (Rows.pagePostsSpec.post enc Try.prog Try.f5 false true false false) := by
  refine returnsInHanded_of_change (C := Try.checked) own started (by kernel_rfl) Try.func5
    (ChangeSpec.witness6 (enc := enc) (C := Try.checked) false ⟨#[], #[.slice none 0 0, .int .u8 0], []⟩ 8 (by kernel_rfl) (by kernel_rfl) (by kernel_rfl) (by kernel_rfl)) ?_
  intro W base args ds gs before hval0 hW hcnd _
  have hval : ∀ (j : Nat) t v, Try.f5.params[j]? = some t → args[j]? = some v → Value.okWide Try.prog W .any base t v := hval0
  have hW' := hW
  obtain ⟨p, q, hA0, hV, rfl, hfz, hnd⟩ := hW
  have hA : DataW.TrodAll enc Try.prog W 0 (fun _ => true) true Try.f5.params.toList args.toList ds p := hA0
  rw [Try.params5] at hA hval
  obtain ⟨v0, vs0, d0, ds0, p0, q0, hargs, rfl, rfl, h0, r0⟩ := trodAll_cons hA
  obtain ⟨v1, vs1, d1, ds1, p1, q1, rfl, rfl, rfl, h1, r1⟩ := trodAll_cons r0
  obtain ⟨rfl, rfl, rfl⟩ := trodAll_nil r1
  obtain rfl : args = #[v0, v1] := by cases args; simp_all
  obtain ⟨rfl, rfl⟩ := trodVars_none hV
  have k0 := h0
  have lt0 : ∀ x ∈ p0, x.block < W.heap.size := by obtain ⟨m, hm⟩ := k0; exact DataW.trod_lt m _ _ _ hm
  obtain ⟨a0, len0, cap0, rfl⟩ := okWide_slice Try.underlying43 (hval 0 43 v0 rfl rfl)
  obtain ⟨z0, w0⟩ := isT43_of h0
  obtain ⟨a1, rfl, rfl, rfl, w1⟩ := open_int Try.underlying5 (hval 1 5 v1 rfl rfl) h1
  clear hA0 hval0
  refine (walk a0 len0 cap0 z0 a1 W w0 w1).mono fun e W' ⟨he, bel⟩ => ?_
  subst he
  exact ⟨_, rfl, _, _, _, [], _, [], hW', trodAll_mk1 (shut_bool Try.underlying4 _), (trodAll_cons_mk (Below.trod laidOut (by kernel_rfl) (of_decide_eq_true (by kernel_rfl)) k0 bel lt0) (trodAll_cons_mk (shut_int Try.underlying5 w1) trodAll_mk0)), rfl, bel.frame _, fun h => by cases h⟩
theorem over : Rows.pagePostsRow.holds Try.pinned (OpenSpec.ofChange Rows.pagePostsSpec) :=
  OpenClaim.holds_of_wide 5 Try.f5 rfl rfl rfl rfl rfl rfl rfl ⟨rfl, rfl, rfl, rfl, rfl⟩ rfl rfl rfl rfl rfl (by kernel_rfl) Try.func5 (by kernel_rfl)
    (of_decide_eq_true (by kernel_rfl)) (by unfold Func.isWrapper; first | (rw [if_pos (by decide +kernel)]; kernel_rfl) | (rw [if_neg (by decide +kernel)]; exact ⟨rfl, rfl⟩))
    (fun os started H enc _ => lifted os started H enc)
theorem proved : Rows.PagePostsSaid := over
#print axioms proved
end PagePosts
end Go.Proofs.Ytgiokigokedakaa
