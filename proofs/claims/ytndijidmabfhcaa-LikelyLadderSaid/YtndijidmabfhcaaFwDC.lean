/- Finding rows: Find and Likely. -/
import Derived.Test.YtndijidmabfhcaaFwDB
namespace Go.Proofs.Ytndijidmabfhcaa.Fw
open Go Go.RowKit

def foundAl (p : Al → Bool) : List Al → Al
  | [] => ⟨0, [], [], [], [], []⟩
  | x :: xs => bif p x then x else foundAl p xs
def foundLk (p : Lk → Bool) : List Lk → Lk
  | [] => ⟨[], [], [], [], [], []⟩
  | x :: xs => bif p x then x else foundLk p xs
theorem firstAl_eq (p : Al → Bool) : ∀ xs, firstAl p xs = .tup [(foundAl p xs).d, .bool (xs.any p)]
  | [] => rfl
  | x :: xs => by
    simp only [firstAl, foundAl, List.any_cons]
    cases p x with
    | true => rfl
    | false => simpa using firstAl_eq p xs
theorem firstLk_eq (p : Lk → Bool) : ∀ xs, firstLk p xs = .tup [(foundLk p xs).d, .bool (xs.any p)]
  | [] => rfl
  | x :: xs => by
    simp only [firstLk, foundLk, List.any_cons]
    cases p x with
    | true => rfl
    | false => simpa using firstLk_eq p xs

set_option maxRecDepth 100000
set_option maxHeartbeats 4000000
theorem run16 (kind : Int) (a b : S8) : Runs Try.prog T 14 (Try.f16.body.getD .skip) Try.f16.results.toList [.int .i64 kind, .str a, .str b] (.tup [(foundAl (isAl kind a b) aliasesL).d, .bool (aliasesL.any (isAl kind a b))]) := by
  refine ⟨Nat.le_of_ble_eq_true rfl, ?_⟩
  conv => whnf
  refine ⟨_, fun _ => call20, ?_⟩
  conv => whnf
  refine ⟨.tup [(foundAl (isAl kind a b) aliasesL).d, .bool (aliasesL.any (isAl kind a b))], fun _ => firstAl_eq (isAl kind a b) aliasesL ▸ call40 aliasesL 41 _ (isAl kind a b) (by decide) (fun x _ => call41 x kind a b), ?_⟩
  generalize foundAl (isAl kind a b) aliasesL = y
  generalize aliasesL.any (isAl kind a b) = z
  conv => whnf
  exact ⟨rfl, rfl⟩
theorem run17 (l s r : S8) : Runs Try.prog T 14 (Try.f17.body.getD .skip) Try.f17.results.toList [.str l, .str s, .str r] (.tup [(foundLk (isLk l s r) likelyL).d, .bool (likelyL.any (isLk l s r))]) := by
  refine ⟨Nat.le_of_ble_eq_true rfl, ?_⟩
  conv => whnf
  refine ⟨_, fun _ => call20, ?_⟩
  conv => whnf
  refine ⟨.tup [(foundLk (isLk l s r) likelyL).d, .bool (likelyL.any (isLk l s r))], fun _ => firstLk_eq (isLk l s r) likelyL ▸ call42 likelyL 43 _ (isLk l s r) (by decide) (fun x _ => call43 x l s r), ?_⟩
  generalize foundLk (isLk l s r) likelyL = y
  generalize likelyL.any (isLk l s r) = z
  conv => whnf
  exact ⟨rfl, rfl⟩
theorem call16 (kind : Int) (a b : S8) : CallsTo Try.prog 16 [.int .i64 kind, .str a, .str b] (.tup [(foundAl (isAl kind a b) aliasesL).d, .bool (aliasesL.any (isAl kind a b))]) := calls Try.func16 rfl (by decide) (run16 kind a b)
theorem call17 (l s r : S8) : CallsTo Try.prog 17 [.str l, .str s, .str r] (.tup [(foundLk (isLk l s r) likelyL).d, .bool (likelyL.any (isLk l s r))]) := calls Try.func17 rfl (by decide) (run17 l s r)

end Go.Proofs.Ytndijidmabfhcaa.Fw
