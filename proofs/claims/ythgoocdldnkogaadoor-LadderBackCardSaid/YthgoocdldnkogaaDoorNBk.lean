import Derived.Test.YthgoocdldnkogaaDoorMX
import Derived.Test.YthgoocdldnkogaaDoorMY

