/- Plain law: sums. -/
import Derived.Test.YtajpdnphamomjaaGreatLib
namespace Go.Proofs.YtajpdnphamomjaaGreat

/-! ### sums -/
def sm (f : Nat → Rat) : Nat → Rat
  | 0 => 0
  | k + 1 => sm f k + f k
theorem sm_congr {f g : Nat → Rat} : ∀ {n : Nat}, (∀ k, k < n → f k = g k) → sm f n = sm g n
  | 0, _ => rfl
  | n + 1, h => by
    show sm f n + f n = sm g n + g n
    rw [sm_congr fun k hk => h k (by omega), h n (by omega)]
theorem sm_zero {f : Nat → Rat} : ∀ {n : Nat}, (∀ k, k < n → f k = 0) → sm f n = 0
  | 0, _ => rfl
  | n + 1, h => by
    show sm f n + f n = 0
    rw [sm_zero fun k hk => h k (by omega), h n (by omega)]; exact Rat.add_zero 0
theorem sm_add (f g : Nat → Rat) : ∀ n, sm (fun k => f k + g k) n = sm f n + sm g n
  | 0 => (Rat.add_zero 0).symm
  | n + 1 => by
    show sm (fun k => f k + g k) n + (f n + g n) = sm f n + f n + (sm g n + g n)
    rw [sm_add f g n]; grind
theorem sm_mul (f : Nat → Rat) (c : Rat) : ∀ n, sm (fun k => f k * c) n = sm f n * c
  | 0 => by show (0 : Rat) = 0 * c; rw [Rat.zero_mul]
  | n + 1 => by
    show sm (fun k => f k * c) n + f n * c = (sm f n + f n) * c
    rw [sm_mul f c n]; grind
theorem sm_comm (f : Nat → Nat → Rat) : ∀ n m, sm (fun k => sm (fun i => f i k) m) n = sm (fun i => sm (fun k => f i k) n) m
  | 0, m => by
    show (0 : Rat) = sm (fun _ => 0) m
    exact (sm_zero fun _ _ => rfl).symm
  | n + 1, m => by
    show sm (fun k => sm (fun i => f i k) m) n + sm (fun i => f i n) m = sm (fun i => sm (fun k => f i k) n + f i n) m
    rw [sm_add, sm_comm f n m]
theorem sm_le {f g : Nat → Rat} : ∀ {n : Nat}, (∀ k, k < n → f k ≤ g k) → sm f n ≤ sm g n
  | 0, _ => Rat.le_refl
  | n + 1, h => by
    show sm f n + f n ≤ sm g n + g n
    have h1 := sm_le (n := n) fun k hk => h k (by omega)
    have h2 := h n (by omega)
    grind
theorem sm_single {f : Nat → Rat} {k : Nat} : ∀ {n : Nat}, k < n → sm (fun j => if j = k then f j else 0) n = f k
  | 0, h => by omega
  | n + 1, h => by
    show sm (fun j => if j = k then f j else 0) n + (if n = k then f n else 0) = f k
    by_cases hk : n = k
    · subst hk
      rw [if_pos rfl, sm_zero fun j hj => if_neg (by omega)]; grind
    · rw [if_neg hk, sm_single (by omega)]; grind
end Go.Proofs.YtajpdnphamomjaaGreat
