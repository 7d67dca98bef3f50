/- All parts of the executor. No statement of the seat is proved here. -/
import Derived.Test.YtdommpfnoiemkaaSxP4
