/- The contract of key.Within of a list of one key that is there. No condition but those written in each statement. -/
import Derived.Test.YtncgppdmfnapiaaKeySg
namespace Go.Proofs.Ytncgppdmfnapiaa.St
open Go.RowKit
set_option linter.unusedVariables false

theorem kr_one {W : World} {g : Nat} {A C : Int} (h0 : W.cell? ⟨g, 0, none⟩ = some (.int .i64 A)) (h1 : W.cell? ⟨g, 1, none⟩ = some (.int .i64 C)) : KR W (some ⟨g, 0, none⟩) 1 (fun _ => (A, C)) := fun i hi => by
  obtain rfl : i = 0 := by omega
  exact ⟨⟨g, 0, none⟩, rfl, h0, h1⟩
theorem kw_one {n : Nat} {z : Nat → Int × Int} {A C : Int} (hh : kHas z n (A, C)) : kWithin (fun _ => (A, C)) 1 z n := fun i hi => lacks_no hh
theorem kwithin_one (x : Addr) (n c g : Nat) (z : Nat → Int × Int) (A C : Int) (W : World) (hn : n ≤ 1000000) (h0 : W.cell? ⟨g, 0, none⟩ = some (.int .i64 A)) (h1 : W.cell? ⟨g, 1, none⟩ = some (.int .i64 C)) (hk : KR W (some x) n z) (hh : kHas z n (A, C)) :
    Calls Try.prog 22 #[.slice (some ⟨g, 0, none⟩) 1 1, .slice (some x) n c] W fun e w' => e = .returned (.bool true) ∧ Below W.heap.size W w' :=
  (kwithin_any (some ⟨g, 0, none⟩) (some x) 1 n c 1 (fun _ => (A, C)) z W (by decide) hn (kr_one h0 h1) hk).mono fun e w' ⟨r, h2, h3, h4⟩ => ⟨by rw [h2, h3.2 (kw_one hh)], h4⟩
end Go.Proofs.Ytncgppdmfnapiaa.St
