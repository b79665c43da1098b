/- A page of a law, with what its cell says: look, post, gather. -/
import Derived.Test.YtgiokigokedakaaPgGather
import Derived.Test.YtgiokigokedakaaPgLaw
set_option linter.unusedVariables false
set_option linter.unusedSimpArgs false
namespace Go.Proofs.Ytgiokigokedakaa
open Go.RowKit
/-- A page of a law; its cell says hd. -/
def PgH (W w : World) (p mp g : Nat) (a : PgA) (hd : Nat) : Prop := (∃ zs fh lh, PgR w p mp g a zs fh lh hd ∧ PgOk a zs.length) ∧ Kept [] W w ∧ W.heap.size ≤ p ∧ W.heap.size ≤ g
theorem PgX.h {W w : World} {p mp g : Nat} {a : PgA} (h : PgX W w p mp g a) : ∃ hd, PgH W w p mp g a hd := by
  obtain ⟨⟨zs, ⟨fh, lh, hd, hR⟩, hok⟩, h2⟩ := h
  exact ⟨hd, ⟨zs, fh, lh, hR, hok⟩, h2⟩
namespace PgH
variable {W w w' : World} {p mp g hd : Nat} {a b : PgA}
theorem x (h : PgH W w p mp g a hd) : PgX W w p mp g a := by
  obtain ⟨⟨zs, fh, lh, hR, hok⟩, h2⟩ := h
  exact ⟨⟨zs, ⟨fh, lh, hd, hR⟩, hok⟩, h2⟩
theorem hd64 (h : PgH W w p mp g a hd) : (hd : Int) < 18446744073709551616 := by
  obtain ⟨⟨zs, fh, lh, hR, hok⟩, h2⟩ := h
  exact hR.po.hd64 hR.lens
theorem keepN {S : List Nat} (h : PgH W w p mp g a hd) (hk : Kept S w w') {B : Nat} (hB : p < B ∧ mp < B ∧ g < B) (hS : ∀ s, s ∈ S → B ≤ s) (hW : W.heap.size ≤ B) : PgH W w' p mp g a hd := by
  obtain ⟨⟨zs, fh, lh, hR, hok⟩, h2, h3⟩ := h
  exact ⟨⟨zs, fh, lh, hR.keep hk (fun h => by have := hS _ h; omega) (fun h => by have := hS _ h; omega) (fun h => by have := hS _ h; omega), hok⟩, h2.trans hk (fun x hx hl => by have := hS x hx; omega), h3⟩
theorem keep0 (h : PgH W w p mp g a hd) (hk : Kept [] w w') : PgH W w' p mp g a hd := by
  obtain ⟨⟨zs, fh, lh, hR, hok⟩, h2, h3⟩ := h
  exact ⟨⟨zs, fh, lh, hR.keep0 hk, hok⟩, hk.then_ h2, h3⟩
theorem look (h : PgH W w p mp g a hd) (ha : a.ask ≤ 1000000000) : Calls Try.prog 19 #[.pointer (some ⟨p, 10, none⟩)] w fun e w' => e = .returned (.tuple #[.int .u64 (hd : Int), .int .u64 (a.tag : Int)]) ∧ PgH W w' p mp g a.late hd ∧ Kept [p, g] w w' := by
  obtain ⟨⟨zs, fh, lh, hR, hok⟩, h2, h3, h4⟩ := h
  exact (look_any w p mp g a zs fh lh hd hR ha).mono fun e w' ⟨he, h5, h6⟩ => ⟨he, ⟨⟨zs, fh, lh, h5, hok.late⟩, h2.trans h6 (fun x hx hl => by simp at hx; omega), h3, h4⟩, h6.mono (fun x hx _ => by simp at hx; simp [hx])⟩
theorem post (h : PgH W w p mp g a hd) (x : Nat) (hx : x ∈ a.us) (ht : a.tag ≤ 1000000000) (ha : a.ask ≤ 1000000000) :
    Calls Try.prog 20 #[.pointer (some ⟨p, 0, none⟩), .int .u64 (x : Int), .int .u64 (hd : Int), .int .u64 (a.tag : Int)] w fun e w' => e = .returned (.tuple #[.bool true, .int .i64 0]) ∧ PgH W w' p mp g (a.post x) x ∧ Kept [p, g] w w' := by
  obtain ⟨⟨zs, fh, lh, hR, hok⟩, h2, h3, h4⟩ := h
  have hl : (splice zs x (bytesOf 8 (hd : Int))).length = zs.length := len_splice8 zs x _ (hok.mem_us hx).2
  exact (post_in w p mp g a zs fh lh hd x hR hok hx ht ha).mono fun e w' ⟨he, h5, h6⟩ => ⟨he, ⟨⟨_, fh, lh, h5, by rw [hl]; exact hok.post hx⟩, h2.trans h6 (fun x hx hl => by simp at hx; omega), h3, h4⟩, h6⟩
theorem late (h : PgH W w p mp g a hd) (x t k : Nat) (hx : x ∈ a.us) (hk64 : (k : Int) < 18446744073709551616) (ht : a.tag ≠ t) (ha : a.ask ≤ 1000000000) :
    Calls Try.prog 20 #[.pointer (some ⟨p, 0, none⟩), .int .u64 (x : Int), .int .u64 (k : Int), .int .u64 (t : Int)] w fun e w' => e = .returned (.tuple #[.bool false, .int .i64 0]) ∧ PgH W w' p mp g a.late hd ∧ Kept [p, g] w w' := by
  obtain ⟨⟨zs, fh, lh, hR, hok⟩, h2, h3, h4⟩ := h
  have hl : (splice zs x (bytesOf 8 (k : Int))).length = zs.length := len_splice8 zs x _ (hok.mem_us hx).2
  exact (post_late w p mp g a zs fh lh hd x t k hR hok hx hk64 ht ha).mono fun e w' ⟨he, h5, h6⟩ => ⟨he, ⟨⟨_, fh, lh, h5, by rw [hl]; exact hok.late⟩, h2.trans h6 (fun x hx hl => by simp at hx; omega), h3, h4⟩, h6⟩
end PgH
theorem x_gather {W w : World} {p mp g : Nat} {a : PgA} (h : PgX W w p mp g a) (r : Int) (hr : (a.po.length : Int) = r) (ht : a.tag ≤ 1000000000) (ha : a.ask ≤ 1000000000) :
    Calls Try.prog 21 #[.pointer (some ⟨p, 0, none⟩)] w fun e w' => e = .returned (.tuple #[.int .i64 r, .int .i64 0]) ∧ PgX W w' p mp g a.gath ∧ Kept [p, g] w w' := by
  subst hr
  obtain ⟨⟨zs, ⟨fh, lh, hd, hR⟩, hok⟩, h2, h3, h4⟩ := h
  exact (gather_in w p mp g a zs fh lh hd hR hok ht ha).mono fun e w' ⟨he, ⟨zs', h5, _⟩, h6⟩ => ⟨he, ⟨⟨zs', h5⟩, h2.trans h6 (fun x hx hl => by simp at hx; omega), h3, h4⟩, h6⟩
theorem x_cell {W w : World} {p mp g : Nat} {a : PgA} (h : PgX W w p mp g a) : Calls Try.prog 18 #[.pointer (some ⟨p, 0, none⟩)] w fun e w' => e = .returned (.pointer (some ⟨p, 10, none⟩)) ∧ Kept [] w w' := by
  obtain ⟨zs, h1⟩ := h.1
  exact cell_any w p mp g a zs h1
end Go.Proofs.Ytgiokigokedakaa
