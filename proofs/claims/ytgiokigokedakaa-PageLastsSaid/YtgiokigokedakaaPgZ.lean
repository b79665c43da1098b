/- A page of a law whose memory is told; what users wrote there stays. -/
import Derived.Test.YtgiokigokedakaaPgAct
import Derived.Test.YtgiokigokedakaaMapU
set_option linter.unusedVariables false
set_option linter.unusedSimpArgs false
namespace Go.Proofs.Ytgiokigokedakaa
open Go.RowKit
def PgZ (W w : World) (p mp g : Nat) (a : PgA) (zs : List Int) : Prop := PgM w p mp g a zs ∧ Kept [] W w ∧ W.heap.size ≤ p ∧ W.heap.size ≤ g
def PgZH (W w : World) (p mp g : Nat) (a : PgA) (zs : List Int) (hd : Nat) : Prop := ((∃ fh lh, PgR w p mp g a zs fh lh hd) ∧ PgOk a zs.length) ∧ Kept [] W w ∧ W.heap.size ≤ p ∧ W.heap.size ≤ g
/-- What a call leaves: the page, its memory but for some links. -/
def Left (W w : World) (p mp g : Nat) (b : PgA) (zs : List Int) (ts : List Nat) (w' : World) : Prop := (∃ z, PgZ W w' p mp g b z ∧ Rest ts zs z) ∧ Kept [p, g] w w'
namespace PgZ
variable {W w w' : World} {p mp g : Nat} {a b : PgA} {zs : List Int}
theorem keep0 (h : PgZ W w p mp g a zs) (hk : Kept [] w w') : PgZ W w' p mp g a zs := ⟨h.1.keep0 hk, hk.then_ h.2.1, h.2.2⟩
theorem keepN {S : List Nat} (h : PgZ W w p mp g a zs) (hk : Kept S w w') {B : Nat} (hB : p < B ∧ mp < B ∧ g < B) (hS : ∀ s, s ∈ S → B ≤ s) (hW : W.heap.size ≤ B) : PgZ W w' p mp g a zs :=
  ⟨h.1.keepS hk (fun h => by have := hS _ h; omega) (fun h => by have := hS _ h; omega) (fun h => by have := hS _ h; omega), h.2.1.trans hk (fun x hx hl => by have := hS x hx; omega), h.2.2⟩
theorem kept (h : PgZ W w p mp g a zs) : Kept [] W w := h.2.1
theorem lt (h : PgZ W w p mp g a zs) : p < w.heap.size ∧ mp < w.heap.size ∧ g < w.heap.size := h.1.lt
theorem ok (h : PgZ W w p mp g a zs) : PgOk a zs.length := h.1.2
theorem lens (h : PgZ W w p mp g a zs) : zs.length ≤ 1048576 := by
  obtain ⟨⟨fh, lh, hd, hR⟩, _⟩ := h.1
  exact hR.lens
theorem mem (h : PgZ W w p mp g a zs) : MemB w mp g zs := by
  obtain ⟨⟨fh, lh, hd, hR⟩, _⟩ := h.1
  exact hR.mem
theorem hd (h : PgZ W w p mp g a zs) : ∃ hd, PgZH W w p mp g a zs hd := by
  obtain ⟨⟨⟨fh, lh, hd, hR⟩, h1⟩, h2⟩ := h
  exact ⟨hd, ⟨⟨fh, lh, hR⟩, h1⟩, h2⟩
theorem ofX (h : PgX W w p mp g a) : ∃ zs, PgZ W w p mp g a zs := by
  obtain ⟨⟨zs, h1⟩, h2⟩ := h
  exact ⟨zs, h1, h2⟩
theorem x (h : PgZ W w p mp g a zs) : PgX W w p mp g a := ⟨⟨zs, h.1⟩, h.2⟩
theorem left {ts : List Nat} (h : PgZ W w p mp g a zs) (ht : PgTo w p mp g b zs ts w') : Left W w p mp g b zs ts w' := by
  obtain ⟨_, h2, h3, h4⟩ := h
  obtain ⟨⟨zs', h5, h6⟩, hk⟩ := ht
  exact ⟨⟨zs', ⟨h5, h2.trans hk (fun x hx hl => by simp at hx; omega), h3, h4⟩, h6⟩, hk⟩
end PgZ
theorem PgZH.z {W w : World} {p mp g hd : Nat} {a : PgA} {zs : List Int} (h : PgZH W w p mp g a zs hd) : PgZ W w p mp g a zs := by
  obtain ⟨⟨⟨fh, lh, hR⟩, h1⟩, h2⟩ := h
  exact ⟨⟨⟨fh, lh, hd, hR⟩, h1⟩, h2⟩
section
variable {W w : World} {p mp g : Nat} {a : PgA} {zs : List Int}
theorem z_alloc (h : PgZ W w p mp g a zs) (x : Nat) (r : List Nat) (hr : a.ready.fr = x :: r) : Calls Try.prog 12 #[.pointer (some ⟨p, 0, none⟩)] w fun e w' => e = .returned (.tuple #[.int .u64 (x : Int), .int .i64 0]) ∧ Left W w p mp g (a.ready.taken x r) zs (a.some_ 0 a.moreN) w' :=
  (alloc_is w p mp g a zs h.1 x r hr).mono fun e w' ⟨he, ht⟩ => ⟨he, PgZ.left h ht⟩
theorem z_full (h : PgZ W w p mp g a zs) (hr : a.ready.fr = []) : Calls Try.prog 12 #[.pointer (some ⟨p, 0, none⟩)] w fun e w' => e = .returned (.tuple #[.int .u64 0, .int .i64 4]) ∧ Left W w p mp g a.ready zs (a.some_ 0 a.moreN) w' :=
  (alloc_full w p mp g a zs h.1 hr).mono fun e w' ⟨he, ht⟩ => ⟨he, PgZ.left h ht⟩
theorem z_free1 (h : PgZ W w p mp g a zs) (x y c : Nat) (hx : x ∈ a.us) (hy : Blk w y 26 #[.int .u64 (x : Int)]) : Calls Try.prog 13 #[.pointer (some ⟨p, 0, none⟩), .slice (some ⟨y, 0, none⟩) 1 c] w fun e w' => e = .returned (.int .i64 0) ∧ Left W w p mp g (a.free1 x) zs [x] w' :=
  (free_one w p mp g a zs h.1 x y c hx hy).mono fun e w' ⟨he, ht⟩ => ⟨he, PgZ.left h ht⟩
theorem z_gather (h : PgZ W w p mp g a zs) (ht : a.tag ≤ 1000000000) (ha : a.ask ≤ 1000000000) :
    Calls Try.prog 21 #[.pointer (some ⟨p, 0, none⟩)] w fun e w' => e = .returned (.tuple #[.int .i64 (a.po.length : Int), .int .i64 0]) ∧ Left W w p mp g a.gath zs a.po w' := by
  have h' := h
  obtain ⟨⟨⟨fh, lh, hd, hR⟩, hok⟩, h2⟩ := h
  exact (gather_in w p mp g a zs fh lh hd hR hok ht ha).mono fun e w' ⟨he, hz, h6⟩ => ⟨he, PgZ.left h' ⟨hz, h6⟩⟩
theorem z_look {hd : Nat} (h : PgZH W w p mp g a zs hd) (ha : a.ask ≤ 1000000000) : Calls Try.prog 19 #[.pointer (some ⟨p, 10, none⟩)] w fun e w' => e = .returned (.tuple #[.int .u64 (hd : Int), .int .u64 (a.tag : Int)]) ∧ PgZH W w' p mp g a.late zs hd ∧ Kept [p, g] w w' := by
  obtain ⟨⟨⟨fh, lh, hR⟩, hok⟩, h2, h3, h4⟩ := h
  exact (look_any w p mp g a zs fh lh hd hR ha).mono fun e w' ⟨he, h5, h6⟩ => ⟨he, ⟨⟨⟨fh, lh, h5⟩, hok.late⟩, h2.trans h6 (fun x hx hl => by simp at hx; omega), h3, h4⟩, h6.mono (fun x hx _ => by simp at hx; simp [hx])⟩
theorem z_post {hd : Nat} (h : PgZH W w p mp g a zs hd) (x : Nat) (hx : x ∈ a.us) (ht : a.tag ≤ 1000000000) (ha : a.ask ≤ 1000000000) :
    Calls Try.prog 20 #[.pointer (some ⟨p, 0, none⟩), .int .u64 (x : Int), .int .u64 (hd : Int), .int .u64 (a.tag : Int)] w fun e w' => e = .returned (.tuple #[.bool true, .int .i64 0]) ∧ Left W w p mp g (a.post x) zs [x] w' := by
  obtain ⟨⟨⟨fh, lh, hR⟩, hok⟩, h2, h3, h4⟩ := h
  have h8 := (hok.mem_us hx).2
  have hl : (splice zs x (bytesOf 8 (hd : Int))).length = zs.length := len_splice8 zs x _ h8
  exact (post_in w p mp g a zs fh lh hd x hR hok hx ht ha).mono fun e w' ⟨he, h5, h6⟩ => ⟨he, ⟨_, ⟨⟨⟨fh, lh, x, h5⟩, by rw [hl]; exact hok.post hx⟩, h2.trans h6 (fun x hx hl => by simp at hx; omega), h3, h4⟩, Rest.splice zs x _ h8⟩, h6⟩
/-- The words of a block. -/
def words (x Z : Nat) : List Nat := (List.range (Z / 8)).map (fun i => x + 8 * i)
theorem rest_fill {zs ys : List Int} {x Z : Nat} (h8 : Z % 8 = 0) (hl : ys.length = Z) (hz : x + Z ≤ zs.length) : Rest (words x Z) zs (splice zs x ys) := by
  refine ⟨by simp [splice]; omega, fun i hi => ?_⟩
  rw [splice_get zs x ys (by omega) i]
  by_cases h1 : i < x
  · rw [if_pos h1]
  · rw [if_neg h1]
    by_cases h2 : i < x + ys.length
    · exfalso
      refine hi (x + 8 * ((i - x) / 8)) (List.mem_map.2 ⟨(i - x) / 8, List.mem_range.2 (by omega), rfl⟩) (by omega)
    · rw [if_neg h2]
theorem PgOk.sep {a : PgA} {len : Nat} (h : PgOk a len) {i j : Nat} (hij : i ≠ j) : a.bl i + a.Z ≤ a.bl j ∨ a.bl j + a.Z ≤ a.bl i := by
  rcases Nat.lt_or_ge i j with h1 | h1
  · exact .inl (h.bl_ap h1)
  · exact .inr (h.bl_ap (show j < i by omega))
/-- A block in hands is apart, with all its bytes, from whatever isn't in hands. -/
theorem PgOk.sepU {a : PgA} {len : Nat} (h : PgOk a len) {x t : Nat} (hx : x ∈ a.us) (ht : t ∈ a.fr ++ (a.lo ++ a.po)) : t + a.Z ≤ x ∨ x + a.Z ≤ t := by
  obtain ⟨i, hi, rfl⟩ := h.mem_all (x := x) (by simp [hx])
  obtain ⟨j, hj, rfl⟩ := h.mem_all (x := t) (by simp at ht ⊢; rcases ht with h | h | h <;> simp [h])
  have hne : j ≠ i := by
    rintro rfl
    have hn := h.nodup
    have e1 : a.fr ++ (a.lo ++ (a.po ++ a.us)) = (a.fr ++ (a.lo ++ a.po)) ++ a.us := by simp
    rw [e1] at hn
    exact (List.nodup_append.1 hn).2.2 _ ht _ hx rfl
  exact h.sep hne
theorem PgOk.sepV {a : PgA} {len : Nat} (h : PgOk a len) {x t : Nat} (hx : x ∈ a.us) (ht : t ∈ a.us) (hne : t ≠ x) : t + a.Z ≤ x ∨ x + a.Z ≤ t := by
  obtain ⟨i, hi, rfl⟩ := h.mem_all (x := x) (by simp [hx])
  obtain ⟨j, hj, rfl⟩ := h.mem_all (x := t) (by simp [ht])
  exact h.sep (fun e => hne (by rw [e]))
theorem PgOk.sepN {a : PgA} {len : Nat} (h : PgOk a len) {x t : Nat} (hx : x ∈ a.us) (ht : t ∈ a.some_ 0 a.moreN) : t + a.Z ≤ x ∨ x + a.Z ≤ t := by
  obtain ⟨i, hi, rfl⟩ := h.mem_all (x := x) (by simp [hx])
  obtain ⟨j, hj, _, rfl⟩ := PgA.mem_some ht
  exact h.sep (by omega)
theorem words_mem {x Z t : Nat} (h : t ∈ words x Z) : x ≤ t ∧ t + 8 ≤ x + Z := by
  obtain ⟨i, hi, rfl⟩ := List.mem_map.1 h
  have := List.mem_range.1 hi
  omega
theorem z_fill (h : PgZ W w p mp g a zs) (x y c : Nat) (hx : x ∈ a.us) (v : Int) (hv : 0 ≤ v ∧ v < 256) (h8 : a.Z % 8 = 0) (hZ : x + a.Z ≤ zs.length) (hy : Blk w y 5 #[.int .u8 v]) (hyg : y ≠ g) :
    Calls Try.prog 24 #[.pointer (some ⟨mp, 0, none⟩), .int .u64 (x : Int), .int .u64 (a.Z : Int), .slice (some ⟨y, 0, none⟩) 1 c] w fun e w' => e = .returned (.int .i64 0) ∧ (∃ z, PgZ W w' p mp g a z ∧ Rest (words x a.Z) zs z ∧ ∀ i, i < a.Z → z[x + i]? = some v) ∧ Kept [g] w w' := by
  obtain ⟨⟨⟨fh, lh, hd, hR⟩, hok⟩, h2, h3, h4⟩ := h
  have hrun := hok.run
  have hrl : (rep [v] a.Z).length = a.Z := by simp [rep]
  have hrest := rest_fill (zs := zs) (ys := rep [v] a.Z) h8 hrl hZ
  have hfar : ∀ l, (∀ t, t ∈ l → t ∈ a.fr ++ (a.lo ++ a.po)) → ∀ t, t ∈ words x a.Z → Far t l := fun l hl t ht u hu => by
    have h1 := words_mem ht
    have h2 := hok.sepU hx (hl u hu)
    omega
  refine (fill_in w mp g zs hR.mem x a.Z hZ (some ⟨y, 0, none⟩) 1 c [v] rfl (fun w' hk => RowX.of_blk (hy.keep hk (by simpa using hyg)) (fun i hi => by
    have : i = 0 := by simpa using hi
    subst this
    rfl)) (fun z hz => by simp at hz; omega) (by simp) (by simp)).mono fun e w' ⟨he, hM, hk⟩ => ⟨he, ⟨_, ⟨⟨⟨fh, lh, hd, ⟨hR.blk.keep hk (by simp; exact hR.ne2), hM, Chn.rest hrest hR.fr (hfar _ (fun t ht => by simp [ht])), Chn.rest hrest hR.lo (hfar _ (fun t ht => by simp [ht])), Chn.rest hrest hR.po (hfar _ (fun t ht => by simp [ht]))⟩⟩, by rw [hrest.1]; exact hok⟩, h2.trans hk (fun x hx hl => by simp at hx; omega), h3, h4⟩, hrest, fun i hi => ?_⟩, hk⟩
  rw [splice_get zs x _ (by omega) (x + i), if_neg (by omega), if_pos (by omega), show x + i - x = i by omega, rep_get [v] a.Z i hi]
  simp [Nat.mod_one]
theorem z_get (h : PgZ W w p mp g a zs) (x n : Nat) (ho : x + n ≤ zs.length) : Calls Try.prog 25 #[.pointer (some ⟨mp, 0, none⟩), .int .u64 (x : Int), .int .u64 (n : Int)] w (GetIs w ((zs.drop x).take n)) := get_in w mp g zs h.mem x n ho
end
end Go.Proofs.Ytgiokigokedakaa
